import Derived.Test.YtehmjjfgefopdaaWs
import Derived.Deep.CutRange
import Derived.Deep.CutBlock
namespace Go.Proofs.Ytehmjjfgefopdaa
open Go.RowKit
set_option linter.unusedSimpArgs false
set_option linter.unusedVariables false
attribute [local go_sem] ob_alloc ob_drew ob_drewN ob_setCell ob_setBlock objSet_cells obMap_map obClock_map isMapI_map keyI_mk findI_nil findI_cons lookRes_some lookRes_none lookRes_some' lookRes_none' setBlock_alloc mapPut

theorem MQ.congr {w0 w : World} {bd m g n R : Nat} {M M' : Nat → Nat → EN} {H F : List Nat} {P : List (Nat × Obj)} {lv : Value} {ll : List Nat} (h : MQ w0 w bd m g n R M H F P lv ll) (he : ∀ f p, p < 16 → M f p = M' f p) (hok : ∀ f p, okE (M' f p) = true) : MQ w0 w bd m g n R M' H F P lv ll :=
  ⟨h.me.congr he hok, h.lr, h.kp, h.ex⟩
theorem MQ.add2 {w0 w w' : World} {bd m g n R : Nat} {M : Nat → Nat → EN} {H F : List Nat} {P : List (Nat × Obj)} {lv : Value} {ll : List Nat} (h : MQ w0 w bd m g n R M H F P lv ll) {b b' : Nat} {o o' : Obj} (hb : w.heap.size ≤ b) (hb' : w.heap.size ≤ b') (k : Keep [] w w') (ho : ob w' b = some o) (ho' : ob w' b' = some o') : MQ w0 w' bd m g n R M H F ((b', o') :: (b, o) :: P) lv ll := by
  obtain ⟨x1, x2, x3, L, F', h1, h2, h3, h4, h5⟩ := h.add hb k ho
  obtain ⟨y1, y2, y3, L', F'', g1, g2, g3, g4, g5⟩ := h.add hb' k ho'
  obtain ⟨La, Fa, a1, a2, a3, a4, a5⟩ := h.ex
  refine ⟨x1, x2, x3, La, Fa, a1.new k, a2, a3, fun x hx => ?_, a5⟩
  have nw : ∀ c, w.heap.size ≤ c → c ∉ Fa ∧ c ≠ g ∧ c ≠ m ∧ lv.ownBlock ≠ some c := fun c hc => ⟨fun hm => by have := a1.lt hm; omega, fun e => by have := ob_lt h.me.1.2.1; omega, fun e => by have := ob_lt h.me.1.1; omega, fun e => by have := (h.row3 e).2.2; omega⟩
  rcases List.mem_cons.1 hx with rfl | hx
  · exact ⟨ho', nw _ hb'⟩
  · rcases List.mem_cons.1 hx with rfl | hx
    · exact ⟨ho, nw _ hb⟩
    · exact ⟨k.kp (a4 x hx).1 (by simp), (a4 x hx).2⟩
set_option maxRecDepth 100000 in
set_option maxHeartbeats 2000000 in
theorem sUnmap (w : World) (bd m g n R r sp : Nat) (M : Nat → Nat → EN) (L : LS) (H F : List Nat) (lv : LV) (hM : MemE w m g n M) (hB : BudAt w bd m L H F) (hS : BS n R L H) (hs : ob w sp = some (spO m bd r)) (hSp : Sp M r lv) (hz : Zs M H) (hown : ∀ f, lv f ≠ none → f ∈ H) (p : Int) :
    Calls Try.prog 10 #[.pointer (some ⟨sp, 0, none⟩), .int .i64 p] w (MvP w bd m g n R M H F r lv) := by
  have hspm : sp ≠ g ∧ sp ≠ m := ⟨hM.gne hs (by decide), hM.mne hs (by decide)⟩
  have HQ0 : Hid (MQ w w bd m g n R M H F [(sp, spO m bd r)] (.slice none 0 0) []) := Lib.hid (MQ.init hM hB hS (fun x hx => by simp at hx; subst hx; exact ⟨hs, rfl, hspm.1, hspm.2⟩))
  have hHn : ∀ f, lv f ≠ none → f < n := fun f hf => (hS.held (hown f hf)).2
  have HSP := Lib.hid hSp
  have HZ := Lib.hid hz
  have HO := Lib.hid hown
  have HN := Lib.hid hHn
  have HND := Lib.hid hS.nd
  -- what the walk tells
  have HWK : Hid (∀ W, Keep [] w W → Calls Try.prog 13 #[.pointer (some ⟨m, 0, none⟩), .int .i64 (r : Int), .int .i64 p] W fun o w' => Keep [] W w' ∧ ∃ (ev ew et : Bool) (ef : Nat) (v : Value) (c : Int), o = .returned (.tuple #[.agg #[.bool ev, .bool ew, .bool et, .int .i64 (ef : Int)], v, .int .i64 c]) ∧
      (c = 0 → ∃ pg : Nat, pg < 4096 ∧ (∀ j, j < 3 → (atP M r pg j).v = true) ∧ RowE E66 66 w' W.heap.size v (stP M r pg 3))) := Lib.hid (fun W kW => by
    have hMW := hM.keep kW (by simp) (by simp)
    cases hb : isB p with
    | false =>
      refine (pWalk_bad W m g n _ hMW.1 r (hHn r (by rw [(hSp.rt r).2 rfl]; simp)) p hb).mono ?_
      rintro _ w' ⟨rfl, hk⟩
      exact ⟨hk, false, false, false, 0, _, 1, rfl, fun h => by cases h⟩
    | true =>
      have hp : 0 ≤ p ∧ p < 4096 := by simpa [isB] using hb
      obtain ⟨q, rfl⟩ : ∃ q : Nat, p = q := ⟨p.toNat, by omega⟩
      refine (pWalk W m g n M hMW r q (by omega) (fun k hk hv => hHn _ (by rw [hSp.path q k hk hv]; simp)) (fun k hk hv => hSp.kind q k hk hv)).mono ?_
      rintro o w' ⟨hk, v, ⟨k, hk3, hv1, hv2, rfl, _⟩ | ⟨hv, rfl, hr⟩⟩
      · exact ⟨hk, false, false, false, 0, v, 10, rfl, fun h => by cases h⟩
      · exact ⟨hk, _, _, _, _, v, 0, rfl, fun _ => ⟨q, by omega, hv, hr⟩⟩)
  have HS := Lib.hid hs
  clear hM hB hS hs hSp hz hown hHn hspm
  go_enter Try.func10, Try.ntmps10
  go_wp2_with fail
  go_cut [6, 7, 8] from 14 to 26 (fun s6 s7 s8 wx => ∃ (xb : Nat) (ev ew et : Bool) (ef : Nat) (c : Int), s6 = .pointer (some ⟨xb, 0, none⟩) ∧ s8 = .int .i64 c ∧ Keep [] w wx ∧ ob wx xb = some (.cells #[.bool ev, .bool ew, .bool et, .int .i64 (ef : Int)] 38 (0, 0)) ∧ w.heap.size ≤ xb ∧ (c = 0 → ∃ pg : Nat, pg < 4096 ∧ (∀ j, j < 3 → (atP M r pg j).v = true) ∧ ∃ B, w.heap.size ≤ B ∧ RowE E66 66 wx B s7 (stP M r pg 3)))
  case first =>
    have c0 : w.cell? ⟨sp, 0, none⟩ = some (.pointer (some ⟨m, 0, none⟩)) := cell_of_ob HS.out 0
    have c2 : w.cell? ⟨sp, 2, none⟩ = some (.int .i64 (r : Int)) := cell_of_ob HS.out 2
    have a0 : ∀ o, (w.alloc o).drew.cell? ⟨sp, 0, none⟩ = some (.pointer (some ⟨m, 0, none⟩)) := fun o => cell_of_ob (dr (al HS.out)) 0
    have a2 : ∀ o, (w.alloc o).drew.cell? ⟨sp, 2, none⟩ = some (.int .i64 (r : Int)) := fun o => cell_of_ob (dr (al HS.out)) 2
    have hne : sp ≠ w.heap.size := by have := ob_lt HS.out; omega
    have hne2 : w.heap.size ≠ sp := hne.symm
    go_region_held3 (fun w' => w'.cell? ⟨sp, 0, none⟩ = some (.pointer (some ⟨m, 0, none⟩)) ∧ w'.cell? ⟨sp, 2, none⟩ = some (.int .i64 (r : Int))) (first | (with_reducible exact ⟨c0, c2⟩) | (with_reducible exact ⟨a0 _, a2 _⟩) | (refine ⟨?_, ?_⟩ <;> with_reducible assumption) | (with_reducible exact ⟨b0 _, b2 _⟩) | go_keep) (first | (go_at_call 13; refine (HWK.out _ ((Keep.refl _ _).alloc _).drew).mono ?_; rintro _ w4 ⟨hk4, ev, ew, et, ef, v4, c4, rfl, hc4⟩; have y4 := hk4.kp (dr (al_new w (.cells #[.bool false, .bool false, .bool false, .int .i64 0] 38) rfl)) (fun h => by cases h); have m0 : w4.cell? ⟨sp, 0, none⟩ = some (.pointer (some ⟨m, 0, none⟩)) := cell_of_ob (hk4.kp (dr (al HS.out)) (fun h => by cases h)) 0; have m2 : w4.cell? ⟨sp, 2, none⟩ = some (.int .i64 (r : Int)) := cell_of_ob (hk4.kp (dr (al HS.out)) (fun h => by cases h)) 2; have d0 : w4.cell? ⟨w.heap.size, 0, none⟩ = some (.bool false) := cell_of_ob y4 0; have d1 : w4.cell? ⟨w.heap.size, 1, none⟩ = some (.bool false) := cell_of_ob y4 1; have d2 : w4.cell? ⟨w.heap.size, 2, none⟩ = some (.bool false) := cell_of_ob y4 2; have d3 : w4.cell? ⟨w.heap.size, 3, none⟩ = some (.int .i64 0) := cell_of_ob y4 3; have g0 := free_of_ob y4 0; have g1 := free_of_ob y4 1; have g2 := free_of_ob y4 2; have g3 := free_of_ob y4 3) | (go_at_call 13; refine (HWK.out _ ((Keep.refl _ _).drew)).mono ?_; rintro _ w4 ⟨hk4, ev, ew, et, ef, v4, c4, rfl, hc4⟩; have x4 := hk4.kp (dr HS.out) (fun h => by cases h); have m0 : w4.cell? ⟨sp, 0, none⟩ = some (.pointer (some ⟨m, 0, none⟩)) := cell_of_ob x4 0; have m2 : w4.cell? ⟨sp, 2, none⟩ = some (.int .i64 (r : Int)) := cell_of_ob x4 2; have b0 : ∀ o, (w4.alloc o).cell? ⟨sp, 0, none⟩ = some (.pointer (some ⟨m, 0, none⟩)) := fun o => cell_of_ob (al x4) 0; have b2 : ∀ o, (w4.alloc o).cell? ⟨sp, 2, none⟩ = some (.int .i64 (r : Int)) := fun o => cell_of_ob (al x4) 2))
    · have hsz : w.heap.size ≤ w4.heap.size := hk4.size
      go_wp2_with fail
      go_meet
      refine ⟨_, ev, ew, et, ef, c4, rfl, rfl, (((Keep.refl _ w).drew).trans hk4).alloc _, al_new w4 _ rfl, hsz, fun h => ?_⟩
      obtain ⟨pg, h1, h2, h3⟩ := hc4 h
      exact ⟨pg, h1, h2, _, Nat.le_refl _, h3.keep (S := []) ((Keep.refl _ _).alloc _) (by simp)⟩
    · go_wp2_with fail
      go_meet
      refine ⟨_, ev, ew, et, ef, c4, rfl, rfl, (((((((Keep.refl _ w).alloc _).drew).trans hk4).setCell (.inr (Nat.le_refl _)) _ _).setCell (.inr (Nat.le_refl _)) _ _).setCell (.inr (Nat.le_refl _)) _ _).setCell (.inr (Nat.le_refl _)) _ _, st_same (st_same (st_same (st_same y4))), Nat.le_refl _, fun h => ?_⟩
      obtain ⟨pg, h1, h2, h3⟩ := hc4 h
      have h4 := h3
      refine ⟨pg, h1, h2, _, ?_, h3.keep (S := [w.heap.size]) (((((Keep.refl _ _).setCell (.inl (by simp)) _ _).setCell (.inl (by simp)) _ _).setCell (.inl (by simp)) _ _).setCell (.inl (by simp)) _ _) (fun b hb hm => ?_)⟩
      · have : ((w.alloc (Obj.cells #[Value.bool false, Value.bool false, Value.bool false, Value.int IntKind.i64 0] 38)).drew).heap.size = w.heap.size + 1 := by simp [World.drew]
        omega
      · simp only [List.mem_singleton] at hm
        subst hm
        obtain ⟨cs, ho⟩ := row_ob h4 hb
        rw [y4] at ho
        simp at ho
  case rest =>
    obtain ⟨xb, ev, ew, et, ef, c, rfl, rfl, hK, hX, hxb, hcc⟩ := hcut
    by_cases h0 : c = 0
    · subst h0
      obtain ⟨pg, hpg, hv, B, hBw, hr⟩ := hcc rfl
      have g0 := hr.get (i := 0) rfl
      obtain ⟨gs, cap, rfl, hg1, hg2, hg3, hg4, hg5⟩ := g0
      obtain ⟨cs, hcs⟩ := row_ob hr (b := gs) rfl
      have hlen : (stP M r pg 3).length = 3 := rfl
      have HCS : Hid (∀ j, j < 3 → cs[j * 2]? = some (vN (frP M r pg j)) ∧ cs[j * 2 + 1]? = some (vN (plc pg j))) := Lib.hid (fun j hj => by
        have hj3 : (stP M r pg 3)[j]? = some (frP M r pg j, plc pg j) := by
          have : j = 0 ∨ j = 1 ∨ j = 2 := by omega
          rcases this with rfl | rfl | rfl <;> rfl
        obtain ⟨g', cap', e1, _, _, _, _, h5⟩ := hr.get hj3
        cases e1
        constructor
        · rw [← cell_of_ob hcs, ← Nat.add_zero (j * 2)]
          exact h5 0 _ rfl
        · rw [← cell_of_ob hcs]
          exact h5 1 _ rfl)
      have hQ1 := HQ0.out.add2 (b := gs) (b' := xb) (by omega) hxb hK hcs hX
      have HQ1 := Lib.hid hQ1
      rw [hlen] at hg3 ⊢
      clear hr hg5 hcs hQ1 hX hcc HQ0 HS HWK hlen
      have HPE : Hid (∃ P, [(xb, Obj.cells #[.bool ev, .bool ew, .bool et, .int .i64 (ef : Int)] 38 (0, 0)), (gs, Obj.cells cs 66 (0, 0)), (sp, spO m bd r)] = P) := Lib.hid ⟨_, rfl⟩
      obtain ⟨P, hP⟩ := HPE.out
      rw [hP] at HQ1
      have HPX : Hid ((xb, Obj.cells #[.bool ev, .bool ew, .bool et, .int .i64 (ef : Int)] 38 (0, 0)) ∈ P ∧ (gs, Obj.cells cs 66 (0, 0)) ∈ P ∧ (sp, spO m bd r) ∈ P) := Lib.hid (by rw [← hP]; simp)
      clear hP HPE
      go_wp2_with fail
      go_loopg [9] 3 (fun gn s9 wr => ∃ (i : Nat) (M' : Nat → Nat → EN) (H' : List Nat) (lv' : LV), s9 = .int .i64 (i : Int) ∧ i < 3 ∧ UI w wr bd m g n R M H F r pg lv P i M' H' lv' ∧ gn = i + 1)
      case atStart => exact ⟨2, M, H, lv, rfl, by omega, ⟨HQ1.out, HSP.out, Mv.refl HO.out, HZ.out, HND.out, Nat.le_refl _, fun j hj => ⟨rfl, HSP.out.path pg j (by omega) (fun k hk => hv k (by omega))⟩, fun h => by omega⟩, rfl⟩
      case round =>
        clear HQ1
        obtain ⟨i, M', H', lv', rfl, hi, hU, rfl⟩ := hrel
        have HU := Lib.hid hU
        have HV := Lib.hid hv
        clear hU hv
        have hg := HU.out.q.kn HPX.out.2.1
        obtain ⟨e0, e1⟩ := HCS.out i hi
        obtain ⟨fi, hfi⟩ : ∃ f, frP M r pg i = f := ⟨_, rfl⟩
        obtain ⟨pi, hpi⟩ : ∃ f, plc pg i = f := ⟨_, rfl⟩
        have r0 : wr.cell? ⟨gs, i * 2, none⟩ = some (.int .i64 (fi : Int)) := by rw [cell_of_ob hg, e0, hfi]; rfl
        have r1 : wr.cell? ⟨gs, i * 2 + 1, none⟩ = some (.int .i64 (pi : Int)) := by rw [cell_of_ob hg, e1, hpi]; rfl
        have lg := ob_lt hg
        have HFP := Lib.hid (And.intro hfi hpi)
        have hi3 : (i : Int) < 3 := by omega
        clear hg e0 e1 hfi hpi
        go_wp2_with fail
        have HQ2 := Lib.hid (HU.out.q.add (Nat.le_refl _) ((Keep.refl [] wr).alloc _) (al_new wr (.cells #[.int .i64 (fi : Int), .int .i64 (pi : Int)] 66) rfl))
        clear r0 r1 lg hi3
        generalize wr.alloc (.cells #[.int .i64 (fi : Int), .int .i64 (pi : Int)] 66) = w1 at *
        generalize wr.heap.size = ab at *
        have ha := HQ2.out.kn (.head _)
        have hs := HQ2.out.kn (x := (sp, spO m bd r)) (List.mem_cons_of_mem _ HPX.out.2.2)
        have a0 : w1.cell? ⟨ab, 0, none⟩ = some (.int .i64 (fi : Int)) := cell_of_ob ha 0
        have a1 : w1.cell? ⟨ab, 1, none⟩ = some (.int .i64 (pi : Int)) := cell_of_ob ha 1
        have s0 : w1.cell? ⟨sp, 0, none⟩ = some (.pointer (some ⟨m, 0, none⟩)) := cell_of_ob hs 0
        have la := ob_lt ha
        have ls := ob_lt hs
        clear ha hs
        go_still_tail 9, (by kernel_rfl)
        have HQ3 := Lib.hid (HQ2.out.new ((Keep.refl [] w1).drew))
        clear a0 a1 s0 la ls HQ2
        change wpList _ _ _ _ _ w1.drew
        generalize w1.drew = w2 at *
        go_wp2_with fail
        have hfn : fi < n := by rw [← HFP.out.1]; exact HN.out _ (by rw [HSP.out.path pg i hi (fun k hk => HV.out k (by omega))]; simp)
        have hpn : pi < 16 := by rw [← HFP.out.2]; exact plc_lt _ _
        refine (pPut w2 m g n M' HQ3.out.me fi pi hfn hpn eZ (by decide)).mono ?_
        rintro _ w3 ⟨rfl, hM3, hK3⟩
        have HQ4 := Lib.hid (HQ3.out.mem hK3 hM3)
        clear hM3 hK3 HQ3
        go_wp2_with fail
        rcases Nat.eq_zero_or_pos i with h0 | h0
        · subst h0
          go_quiet (fail)
          have HQ5 := Lib.hid (HQ4.out.new ((Keep.refl [] w3).drewN nq))
          clear HQ4
          generalize w3.drewN nq = w4 at *
          have HQe := Lib.hid (HQ5.out.drop)
          have hxx := HQe.out.kn HPX.out.1
          have x3 : w4.cell? ⟨xb, 3, none⟩ = some (.int .i64 (ef : Int)) := cell_of_ob hxx 3
          have lxx := ob_lt hxx
          clear hxx
          go_wp2_with fail
          go_ret2
          obtain ⟨rfl, rfl⟩ := HFP.out
          exact ⟨_, _, _, _, rfl, HQe.out.toMB, HU.out.sp1 hi HV.out, HU.out.zs1, HU.out.mv1 hi HV.out, Nat.le_trans HU.out.nd1.2 (by omega)⟩
        · have hi0 : ((i : Int) == 0) = false := by simp; omega
          have ha := HQ4.out.kn (.head _)
          have hs := HQ4.out.kn (x := (sp, spO m bd r)) (List.mem_cons_of_mem _ HPX.out.2.2)
          have a0 : w3.cell? ⟨ab, 0, none⟩ = some (.int .i64 (fi : Int)) := cell_of_ob ha 0
          have s0 : w3.cell? ⟨sp, 0, none⟩ = some (.pointer (some ⟨m, 0, none⟩)) := cell_of_ob hs 0
          have la := ob_lt ha
          have ls := ob_lt hs
          clear ha hs
          go_still_tail 9, (by kernel_rfl)
          have HQ6 := Lib.hid (HQ4.out.new ((Keep.refl [] w3).drew))
          clear a0 s0 la ls HQ4
          change wpList _ _ _ _ _ w3.drew
          generalize w3.drew = w4 at *
          go_wp2_with fail
          refine (pBlank w4 m g n _ HQ6.out.me fi hfn).mono ?_
          rintro _ w5 ⟨rfl, hK5⟩
          have HQ5 := Lib.hid (HQ6.out.new hK5)
          clear hK5 HQ6
          cases hbl : blankE (updE M' fi pi eZ) fi with
          | false =>
            have HQe := Lib.hid (HQ5.out.drop)
            have hxx := HQe.out.kn HPX.out.1
            have x3 : w5.cell? ⟨xb, 3, none⟩ = some (.int .i64 (ef : Int)) := cell_of_ob hxx 3
            have lxx := ob_lt hxx
            clear hxx
            go_wp2_with fail
            go_ret2
            obtain ⟨rfl, rfl⟩ := HFP.out
            exact ⟨_, _, _, _, rfl, HQe.out.toMB, HU.out.sp1 hi HV.out, HU.out.zs1, HU.out.mv1 hi HV.out, Nat.le_trans HU.out.nd1.2 (by omega)⟩
          | true =>
            have ha := HQ5.out.kn (.head _)
            have hs := HQ5.out.kn (x := (sp, spO m bd r)) (List.mem_cons_of_mem _ HPX.out.2.2)
            have a0 : w5.cell? ⟨ab, 0, none⟩ = some (.int .i64 (fi : Int)) := cell_of_ob ha 0
            have s1 : w5.cell? ⟨sp, 1, none⟩ = some (.pointer (some ⟨bd, 0, none⟩)) := cell_of_ob hs 1
            have la := ob_lt ha
            have ls := ob_lt hs
            clear ha hs
            go_wp2_with fail
            go_still_tail 6, (by kernel_rfl)
            have HQ6 := Lib.hid (HQ5.out.new ((Keep.refl [] w5).drew))
            clear a0 s1 la ls HQ5
            change wpList _ _ _ _ _ w5.drew
            generalize w5.drew = w6 at *
            go_wp2_with fail
            obtain ⟨k, rfl⟩ : ∃ k, i = k + 1 := ⟨i - 1, by omega⟩
            obtain ⟨L6, F6, b1, b2, b3⟩ := HQ6.out.call
            have hin : fi ∈ (if k + 1 = 2 then H' else H'.erase (frP M r pg (k + 1 + 1))) := by
              have := (HU.out.mv1 hi HV.out).own fi (by rw [← HFP.out.1, HU.out.self1 hi HV.out]; simp)
              exact this
            refine (bFree w6 bd m g n R _ L6 _ F6 HQ6.out.me b1 b2 fi (by have := b2.le; omega)).mono ?_
            rintro o w7 ⟨e, rfl, he, hmb⟩
            obtain rfl : e = 0 := he hin
            rw [if_pos hin] at hmb
            have hbo := blankE_out hbl
            have hok := HQ6.out.me.2
            have hzz : ∀ p, p < 16 → updE M' fi pi eZ fi p = eZ := fun p hp => okE_blank (hok fi p) (hbo p hp)
            have HQ7 : Hid (MQ w w7 bd m g n R (updE M' fi pi eZ) ((UH1 M r pg (k + 1) H').erase fi) F P (.slice none 0 0) []) := Lib.hid ((b3 w7 _ _ hmb).drop.congr (fun f p hp => by
              unfold scrE
              split
              · rename_i e
                rw [e, hzz p hp]
              · rfl) hok)
            have HZ7 : Hid (Zs (updE M' fi pi eZ) ((UH1 M r pg (k + 1) H').erase fi)) := Lib.hid (fun f hf p hp => by
              by_cases e : f = fi
              · rw [e]; exact hzz p hp
              · have h1 : f ∉ UH1 M r pg (k + 1) H' := fun hm => hf (HU.out.nd1.1.mem_erase_iff.2 ⟨e, hm⟩)
                have := HU.out.zs1 f h1 p hp
                rw [HFP.out.1, HFP.out.2] at this
                exact this)
            have HBO := Lib.hid hbo
            clear hmb hbo hok hzz b1 b2 b3 HQ6 hin
            have hwr : IntKind.i64.wrap (((k + 1 : Nat) : Int) - 1) = (k : Int) := by rw [IntWalk.i64_in _ (by omega)]; omega
            go_wp2_with fail
            go_roundg (k + 1)
            case measure => omega
            case rel =>
              refine ⟨k, updE M' fi pi eZ, UH1 M r pg (k + 1) H', ULv M r pg (k + 1) lv', by go_num, by omega, ?_, rfl⟩
              obtain ⟨rfl, rfl⟩ := HFP.out
              exact ⟨by rw [if_neg (by omega)]; exact HQ7.out, HU.out.sp1 hi HV.out, HU.out.mv1 hi HV.out, by rw [if_neg (by omega)]; exact HZ7.out, HU.out.nd1.1, HU.out.nd1.2, fun j hj => HU.out.pa1 hi HV.out j (by omega), fun _ => HBO.out⟩
    · have HQ1 := Lib.hid (HQ0.out.new hK)
      clear hX
      go_wp2_with fail
      go_ret2
      exact ⟨_, M, H, lv, rfl, HQ1.out.toMB, HSP.out, HZ.out, Mv.refl HO.out, by omega⟩
end Go.Proofs.Ytehmjjfgefopdaa
