import Derived.Test.YtehmjjfgefopdaaWu
namespace Go.Proofs.Ytehmjjfgefopdaa
open Go.RowKit
set_option linter.unusedSimpArgs false
set_option linter.unusedVariables false
attribute [local go_sem] ob_alloc ob_drew ob_drewN ob_setCell ob_setBlock objSet_cells obMap_map obClock_map isMapI_map keyI_mk findI_nil findI_cons lookRes_some lookRes_none lookRes_some' lookRes_none' setBlock_alloc mapPut

def MapP (w : World) (bd m g n R : Nat) (M : Nat → Nat → EN) (H F : List Nat) (r : Nat) (lv : LV) (p : Int) (wr : Bool) (fr : Nat) : Ending → World → Prop := fun o w' =>
  ∃ (e : Int) (M' : Nat → Nat → EN) (H' : List Nat) (lv' : LV), o = .returned (.int .i64 e) ∧ MB w w' bd m g n R M' H' F ∧ Sp M' r lv' ∧ Zs M' H' ∧ Mv H M lv H' M' lv' ∧ H'.length ≤ H.length + 2 ∧ (isB p = true → (fEI M r p).v = false → e = 0 ∧ fEI M' r p = ⟨true, wr, false, fr⟩)
/-- what Map's own loop holds, at a level -/
structure MI (w wr : World) (bd m g n R : Nat) (M : Nat → Nat → EN) (H F : List Nat) (lv : LV) (r pg l k : Nat) (sp sb xm lb : Nat) (pv : Value) (ps : List (Nat × Nat × Nat)) (bs : List (Nat × Nat)) (lf : Nat) (H' : List Nat) (lv' : LV) (P : List (Nat × Obj)) : Prop where
  pl : PL n M H lv r pg l ps lf H' lv'
  q : ∃ lvv ll, MQ w wr bd m g n R M H' F ((xm, mdO sp lvv) :: (lb, b66 lf (plc pg l)) :: P) lvv ll ∧ ll.length ≤ H'.length
  row : RowE (E70 sb) 70 wr w.heap.size pv bs
  len : ps.length = bs.length
  hl : H'.length = H.length + ps.length
  kl : l = k + ps.length
  dx : ∀ x ∈ P, x.1 ≠ xm ∧ x.1 ≠ lb ∧ no70 x.2 = true
  xl : xm ≠ lb ∧ w.heap.size ≤ xm ∧ w.heap.size ≤ lb
  ps1 : (sb, b32 sp) ∈ P ∧ (sp, spO m bd r) ∈ P
  bx : ∀ (i : Nat) (a : Nat × Nat × Nat) (b : Nat × Nat), ps[i]? = some a → bs[i]? = some b → (b.1, b66 a.1 a.2.1) ∈ P ∧ (b.2, b3 a.2.2) ∈ P
set_option maxRecDepth 100000 in
set_option maxHeartbeats 4000000 in
theorem sMap (w : World) (bd m g n R r sp : Nat) (M : Nat → Nat → EN) (L : LS) (H F : List Nat) (lv : LV) (hM : MemE w m g n M) (hB : BudAt w bd m L H F) (hS : BS n R L H) (hs : ob w sp = some (spO m bd r)) (hSp : Sp M r lv) (hz : Zs M H) (hown : ∀ f, lv f ≠ none → f ∈ H) (hroom : H.length + 2 + R ≤ n) (p : Int) (fr : Nat) (hfr : fr < n) (ww : Bool) :
    Calls Try.prog 8 #[.pointer (some ⟨sp, 0, none⟩), .int .i64 p, .int .i64 (fr : Int), .bool ww] w (MapP w bd m g n R M H F r lv p ww fr) := by
  have hn256 := hS.le
  have k1 : Keep [] w (w.alloc (.cells #[.pointer (some ⟨sp, 0, none⟩)] 32)) := (Keep.refl _ _).alloc _
  have hspm : sp ≠ g ∧ sp ≠ m := ⟨hM.gne hs (by decide), hM.mne hs (by decide)⟩
  have HQ0 : Hid (MQ w (w.alloc (.cells #[.pointer (some ⟨sp, 0, none⟩)] 32)) bd m g n R M H F [(w.heap.size, b32 sp), (sp, spO m bd r)] (.slice none 0 0) []) := Lib.hid ((MQ.init hM hB hS (P := [(sp, spO m bd r)]) (fun x hx => by simp at hx; subst hx; exact ⟨hs, rfl, hspm.1, hspm.2⟩)).add (Nat.le_refl _) k1 (al_new w _ rfl))
  have hHn : ∀ f, lv f ≠ none → f < n := fun f hf => (hS.held (hown f hf)).2
  have HSP := Lib.hid hSp
  have HZ := Lib.hid hz
  have HO := Lib.hid hown
  have HN := Lib.hid hHn
  have HSL := Lib.hid (ob_lt hs)
  have hmf : ∀ (fn : Fn) (first cap : Array Value) (w : World), (Instr.makeFunc fn first cap).run Try.prog w = .ok (.func fn first cap) w := fun _ _ _ _ => rfl
  have hfr0 : decide ((fr : Int) < 0) = false := by simp
  have hfr1 : decide ((n : Int) ≤ (fr : Int)) = false := by simp; omega
  cases hb : isB p with
  | false =>
    clear hM hB hS hs hSp hz hown hHn hspm k1
    have HE : Hid (isB p = false) := Lib.hid hb
    clear hb
    go_enter Try.func8, Try.ntmps8
    go_wp2_with fail
    generalize w.alloc (.cells #[.pointer (some ⟨sp, 0, none⟩)] 32) = w1 at *
    refine (pIs w1 p).mono ?_
    rintro _ w2 ⟨rfl, rfl⟩
    rw [HE.out]
    go_wp2_with fail
    go_ret
    exact ⟨1, M, H, lv, rfl, HQ0.out.toMB, HSP.out, HZ.out, Mv.refl HO.out, by omega, fun h => by rw [HE.out] at h; cases h⟩
  | true =>
    have hp : 0 ≤ p ∧ p < 4096 := by simpa [isB] using hb
    obtain ⟨pg, rfl⟩ : ∃ q : Nat, p = q := ⟨p.toNat, by omega⟩
    have hpg : pg < 4096 := by omega
    have HE : Hid (isB (pg : Int) = true) := Lib.hid hb
    have HWK : Hid (∀ W, Keep [] w W → Calls Try.prog 13 #[.pointer (some ⟨m, 0, none⟩), .int .i64 (r : Int), .int .i64 (pg : Int)] W fun o w' => Keep [] W w' ∧ ∃ (ev ew et : Bool) (ef : Nat) (v : Value) (c : Int), o = .returned (.tuple #[.agg #[.bool ev, .bool ew, .bool et, .int .i64 (ef : Int)], v, .int .i64 c]) ∧
        ((c = 0 ∧ (fEI M r (pg : Int)).v = true) ∨ (c = 10 ∧ ∃ k, k < 3 ∧ (∀ j, j < k → (atP M r pg j).v = true) ∧ (atP M r pg k).v = false ∧ RowE E66 66 w' W.heap.size v (stP M r pg (k + 1))))) := Lib.hid (fun W kW => by
      have hMW := hM.keep kW (by simp) (by simp)
      refine (pWalk W m g n M hMW r pg (by omega) (fun k hk hv => hHn _ (by rw [hSp.path pg k hk hv]; simp)) (fun k hk hv => hSp.kind pg k hk hv)).mono ?_
      rintro o w' ⟨hk, v, ⟨k, hk3, hv1, hv2, rfl, hr⟩ | ⟨hv, rfl, hr⟩⟩
      · exact ⟨hk, false, false, false, 0, v, 10, rfl, .inr ⟨rfl, k, hk3, hv1, hv2, hr⟩⟩
      · refine ⟨hk, _, _, _, _, v, 0, rfl, .inl ⟨rfl, ?_⟩⟩
        unfold fEI
        rw [hb, Int.toNat_natCast, if_pos rfl, fE_yes hv]
        exact hv 2 (by omega))
    have HMA := Lib.hid hM.1
    clear hM hB hS hs hSp hz hown hHn hspm hb hp
    go_enter Try.func8, Try.ntmps8
    go_wp2_with fail
    have hk1 := Lib.hid k1
    clear k1
    generalize w.alloc (.cells #[.pointer (some ⟨sp, 0, none⟩)] 32) = w1 at *
    obtain ⟨sb, hsb⟩ : ∃ sb, w.heap.size = sb := ⟨_, rfl⟩
    have HSB := Lib.hid hsb
    rw [hsb] at HQ0
    simp only [hsb]
    clear hsb
    refine (pIs w1 pg).mono ?_
    rintro _ w2 ⟨rfl, rfl⟩
    rw [HE.out]
    have hb1 := HQ0.out.kn (.head _)
    have hs1 := HQ0.out.kn (x := (sp, spO m bd r)) (by simp)
    have b0 : w1.cell? ⟨sb, 0, none⟩ = some (.pointer (some ⟨sp, 0, none⟩)) := cell_of_ob hb1 0
    have s0 : w1.cell? ⟨sp, 0, none⟩ = some (.pointer (some ⟨m, 0, none⟩)) := cell_of_ob hs1 0
    have lb1 := ob_lt hb1
    have ls1 := ob_lt hs1
    clear hb1 hs1
    go_wp2_with (first | (go_at_call 16; refine (mFrames w1 m g n _ (HMA.out.keep hk1.out (by simp) (by simp))).mono ?_; rintro _ w3 ⟨rfl, rfl⟩) | fail)
    clear hfr0 hfr1 b0 s0 lb1 ls1
    go_cut [9, 10, 11] from 25 to 54 (fun s9 s10 s11 wx => ∃ (c : Int), s11 = .int .i64 c ∧ Keep [] w1 wx ∧ ((c = 0 ∧ (fEI M r (pg : Int)).v = true) ∨ (c = 10 ∧ ∃ k, k < 3 ∧ (∀ j, j < k → (atP M r pg j).v = true) ∧ (atP M r pg k).v = false ∧ ∃ B, RowE E66 66 wx B s10 (stP M r pg (k + 1)))))
    case first =>
      have hb1 := HQ0.out.kn (.head _)
      have hs1 := HQ0.out.kn (x := (sp, spO m bd r)) (by simp)
      have HB1 := Lib.hid hb1
      have HS1 := Lib.hid hs1
      have cb : w1.cell? ⟨sb, 0, none⟩ = some (.pointer (some ⟨sp, 0, none⟩)) := cell_of_ob hb1 0
      have c0 : w1.cell? ⟨sp, 0, none⟩ = some (.pointer (some ⟨m, 0, none⟩)) := cell_of_ob hs1 0
      have c2 : w1.cell? ⟨sp, 2, none⟩ = some (.int .i64 (r : Int)) := cell_of_ob hs1 2
      have ab : ∀ o, (w1.alloc o).drew.cell? ⟨sb, 0, none⟩ = some (.pointer (some ⟨sp, 0, none⟩)) := fun o => cell_of_ob (dr (al HB1.out)) 0
      have a0 : ∀ o, (w1.alloc o).drew.cell? ⟨sp, 0, none⟩ = some (.pointer (some ⟨m, 0, none⟩)) := fun o => cell_of_ob (dr (al HS1.out)) 0
      have a2 : ∀ o, (w1.alloc o).drew.cell? ⟨sp, 2, none⟩ = some (.int .i64 (r : Int)) := fun o => cell_of_ob (dr (al HS1.out)) 2
      have hne : sp ≠ w1.heap.size := by have := ob_lt hs1; omega
      have hne2 : w1.heap.size ≠ sp := hne.symm
      have hnb : sb ≠ w1.heap.size := by have := ob_lt hb1; simp only at this; omega
      have hnb2 : w1.heap.size ≠ sb := hnb.symm
      clear hb1 hs1
      go_region_held3 (fun w' => w'.cell? ⟨sb, 0, none⟩ = some (.pointer (some ⟨sp, 0, none⟩)) ∧ w'.cell? ⟨sp, 0, none⟩ = some (.pointer (some ⟨m, 0, none⟩)) ∧ w'.cell? ⟨sp, 2, none⟩ = some (.int .i64 (r : Int))) (first | (with_reducible exact ⟨cb, c0, c2⟩) | (with_reducible exact ⟨ab _, a0 _, a2 _⟩) | (refine ⟨?_, ?_, ?_⟩ <;> with_reducible assumption) | (with_reducible exact ⟨bb _, b0 _, b2 _⟩) | go_keep) (first | (go_at_call 13; refine (HWK.out _ ((hk1.out.alloc _).drew)).mono ?_; rintro _ w4 ⟨hk4, ev, ew, et, ef, v4, c4, rfl, hc4⟩; have y4 := hk4.kp (dr (al_new w1 (.cells #[.bool false, .bool false, .bool false, .int .i64 0] 38) rfl)) (fun h => by cases h); have mb : w4.cell? ⟨sb, 0, none⟩ = some (.pointer (some ⟨sp, 0, none⟩)) := cell_of_ob (hk4.kp (dr (al HB1.out)) (fun h => by cases h)) 0; have m0 : w4.cell? ⟨sp, 0, none⟩ = some (.pointer (some ⟨m, 0, none⟩)) := cell_of_ob (hk4.kp (dr (al HS1.out)) (fun h => by cases h)) 0; have m2 : w4.cell? ⟨sp, 2, none⟩ = some (.int .i64 (r : Int)) := cell_of_ob (hk4.kp (dr (al HS1.out)) (fun h => by cases h)) 2; have d0 : w4.cell? ⟨w1.heap.size, 0, none⟩ = some (.bool false) := cell_of_ob y4 0; have d1 : w4.cell? ⟨w1.heap.size, 1, none⟩ = some (.bool false) := cell_of_ob y4 1; have d2 : w4.cell? ⟨w1.heap.size, 2, none⟩ = some (.bool false) := cell_of_ob y4 2; have d3 : w4.cell? ⟨w1.heap.size, 3, none⟩ = some (.int .i64 0) := cell_of_ob y4 3; have g0 := free_of_ob y4 0; have g1 := free_of_ob y4 1; have g2 := free_of_ob y4 2; have g3 := free_of_ob y4 3) | (go_at_call 13; refine (HWK.out _ (hk1.out.drew)).mono ?_; rintro _ w4 ⟨hk4, ev, ew, et, ef, v4, c4, rfl, hc4⟩; have x4 := hk4.kp (dr HS1.out) (fun h => by cases h); have z4 := hk4.kp (dr HB1.out) (fun h => by cases h); have mb : w4.cell? ⟨sb, 0, none⟩ = some (.pointer (some ⟨sp, 0, none⟩)) := cell_of_ob z4 0; have m0 : w4.cell? ⟨sp, 0, none⟩ = some (.pointer (some ⟨m, 0, none⟩)) := cell_of_ob x4 0; have m2 : w4.cell? ⟨sp, 2, none⟩ = some (.int .i64 (r : Int)) := cell_of_ob x4 2; have bb : ∀ o, (w4.alloc o).cell? ⟨sb, 0, none⟩ = some (.pointer (some ⟨sp, 0, none⟩)) := fun o => cell_of_ob (al z4) 0; have b0 : ∀ o, (w4.alloc o).cell? ⟨sp, 0, none⟩ = some (.pointer (some ⟨m, 0, none⟩)) := fun o => cell_of_ob (al x4) 0; have b2 : ∀ o, (w4.alloc o).cell? ⟨sp, 2, none⟩ = some (.int .i64 (r : Int)) := fun o => cell_of_ob (al x4) 2))
      · go_wp2_with fail
        go_meet
        refine ⟨c4, rfl, (((Keep.refl _ w1).drew).trans hk4).alloc _, ?_⟩
        rcases hc4 with h | ⟨h1, k, h2, h3, h4, h5⟩
        · exact .inl h
        · exact .inr ⟨h1, k, h2, h3, h4, _, h5.keep (S := []) ((Keep.refl _ _).alloc _) (by simp)⟩
      · go_wp2_with fail
        go_meet
        refine ⟨c4, rfl, (((((((Keep.refl _ w1).alloc _).drew).trans hk4).setCell (.inr (Nat.le_refl _)) _ _).setCell (.inr (Nat.le_refl _)) _ _).setCell (.inr (Nat.le_refl _)) _ _).setCell (.inr (Nat.le_refl _)) _ _, ?_⟩
        rcases hc4 with h | ⟨h1, k, h2, h3, h4, h5⟩
        · exact .inl h
        · refine .inr ⟨h1, k, h2, h3, h4, _, h5.keep (S := [w1.heap.size]) (((((Keep.refl _ _).setCell (.inl (by simp)) _ _).setCell (.inl (by simp)) _ _).setCell (.inl (by simp)) _ _).setCell (.inl (by simp)) _ _) (fun b hb hm => ?_)⟩
          simp only [List.mem_singleton] at hm
          subst hm
          obtain ⟨cs, ho⟩ := row_ob h5 hb
          rw [y4] at ho
          simp at ho
    case rest =>
      obtain ⟨c, rfl, hKc, hc⟩ := hcut
      have HQ1 := Lib.hid (HQ0.out.new hKc)
      clear hKc HQ0 HWK HMA hk1
      rcases hc with ⟨rfl, hfe⟩ | ⟨rfl, k, hk3, hv, hno, B, hrow⟩
      · go_wp2_with fail
        go_ret
        exact ⟨4, M, H, lv, rfl, HQ1.out.toMB, HSP.out, HZ.out, Mv.refl HO.out, by omega, fun _ h => by rw [hfe] at h; cases h⟩
      · have hlen := stP_len M r pg (k + 1)
        have hget : (stP M r pg (k + 1))[k]? = some (frP M r pg k, plc pg k) := by
          rw [stP, List.getElem?_append_right (by rw [stP_len]; exact Nat.le_refl _), stP_len]
          simp
        obtain ⟨gs, cap, rfl, _, hg2, hg3, hg4, hg5⟩ := hrow.get hget
        rw [hlen] at hg3 ⊢
        obtain ⟨lf, hlf⟩ : ∃ f, frP M r pg k = f := ⟨_, rfl⟩
        have HPL0 := Lib.hid (PL.init HSP.out HZ.out HO.out hv hno (N := n))
        rw [hlf] at HPL0 hg5
        obtain ⟨pk, hpk⟩ : ∃ q, plc pg k = q := ⟨_, rfl⟩
        have HPK := Lib.hid hpk
        rw [hpk] at hg5
        have r0 : wc.cell? ⟨gs, k * 2, none⟩ = some (.int .i64 (lf : Int)) := by rw [← Nat.add_zero (k * 2)]; exact hg5 0 _ rfl
        have r1 : wc.cell? ⟨gs, k * 2 + 1, none⟩ = some (.int .i64 (pk : Int)) := hg5 1 _ rfl
        have HG : Hid (∃ cs, ob wc gs = some (.cells cs 66 (0, 0))) := Lib.hid (row_ob hrow rfl)
        clear hrow hget hg5 hlf hpk hlen hv hno
        have hb1 := HQ1.out.kn (.head _)
        have b0 : wc.cell? ⟨sb, 0, none⟩ = some (.pointer (some ⟨sp, 0, none⟩)) := cell_of_ob hb1 0
        have lb1 := ob_lt hb1
        clear hb1
        have hk1w : IntKind.i64.wrap (((k + 1 : Nat) : Int) - 1) = (k : Int) := by rw [IntWalk.i64_in _ (by omega)]; omega
        have hk3' : (k : Int) < ((k + 1 : Nat) : Int) := by omega
        go_wp2_with fail
        have kA : Keep [] wc ((wc.alloc (.cells #[.pointer (some ⟨sp, 0, none⟩), .slice none 0 0] 64)).alloc (.cells #[.int .i64 (lf : Int), .int .i64 (pk : Int)] 66)) := ((Keep.refl _ _).alloc _).alloc _
        have HQ2 := Lib.hid (HQ1.out.add2 (b := wc.heap.size + 1) (b' := wc.heap.size) (by omega) (Nat.le_refl _) kA (al_new _ (.cells #[.int .i64 (lf : Int), .int .i64 (pk : Int)] 66) (by simp)) (al (al_new wc (.cells #[.pointer (some ⟨sp, 0, none⟩), .slice none 0 0] 64) rfl)))
        have hwc := HQ1.out.kp.size
        clear kA HQ1 r0 r1 HG b0 hk1w hk3' hg2 hg3 hg4
        generalize ((wc.alloc (.cells #[.pointer (some ⟨sp, 0, none⟩), .slice none 0 0] 64)).alloc (.cells #[.int .i64 (lf : Int), .int .i64 (pk : Int)] 66)) = w3 at *
        obtain ⟨xm, hxm⟩ : ∃ xm, wc.heap.size = xm := ⟨_, rfl⟩
        have hsp : sp < xm := by have := HSL.out; omega
        have hsbm : sb < xm := by omega
        have HLM : Hid (xm ≠ xm + 1 ∧ w.heap.size ≤ xm ∧ w.heap.size ≤ xm + 1 ∧ sp < xm ∧ sb < xm) := Lib.hid (by omega)
        rw [hxm] at HQ2
        simp only [hxm]
        clear hxm hsp hsbm lb1 hwc
        rw [← HPK.out] at HQ2
        have HMI : Hid (MI w w3 bd m g n R M H F lv r pg k k sp sb xm (xm + 1) (.slice none 0 0) [] [] lf H lv [(sb, b32 sp), (sp, spO m bd r)]) := Lib.hid ⟨HPL0.out, ⟨_, [], HQ2.out, by simp⟩, RowE.nil _ _, rfl, rfl, rfl, fun x hx => by
          have := HLM.out
          simp at hx
          rcases hx with rfl | rfl
          · exact ⟨by simp only; omega, by simp only; omega, rfl⟩
          · exact ⟨by simp only; omega, by simp only; omega, rfl⟩, ⟨HLM.out.1, HLM.out.2.1, HLM.out.2.2.1⟩, by simp, fun i a b h => by simp at h⟩
        go_loopg [15, 16] (2 - k) (fun gn s15 s16 wz => ∃ (l : Nat) (ps : List (Nat × Nat × Nat)) (bs : List (Nat × Nat)) (lf : Nat) (H' : List Nat) (lv' : LV) (P : List (Nat × Obj)), s16 = .int .i64 ((l : Int) + 1) ∧ l < 3 ∧ MI w wz bd m g n R M H F lv r pg l k sp sb xm (xm + 1) s15 ps bs lf H' lv' P ∧ gn = 2 - l)
        case atStart => exact ⟨k, [], [], lf, H, lv, _, rfl, hk3, HMI.out, rfl⟩
        case round =>
          clear HMI HQ2 HPL0 HPK
          obtain ⟨l, ps, bs, lf', H', lv', P, rfl, hl3, hMI, hgl⟩ := hrel
          have HM := Lib.hid hMI
          clear hMI
          by_cases hlt : l < 2
          · have hlt' : (l : Int) + 1 < 3 := by omega
            obtain ⟨lvv, ll, hQ, hll⟩ := HM.out.q
            have hlen1 := Lib.hid HM.out.hl
            have hkl := Lib.hid HM.out.kl
            obtain ⟨Pr, hQr, hPr1, hPr2⟩ := hQ.knowRow HM.out.row
            have HPR := Lib.hid hPr2
            have HT := Lib.hid (sTable w wr bd m g n R r sp xm M H' F ((xm + 1, b66 lf' (plc pg l)) :: P ++ Pr) lvv ll hQr (fun x hx => by
              rcases List.mem_append.1 hx with hx | hx
              · rcases List.mem_cons.1 hx with rfl | hx
                · simp
                · exact (HM.out.dx x hx).1
              · intro e
                obtain ⟨cs, e2⟩ := hPr1 x hx
                have h1 := hQr.kn (x := x) (by simp [hx])
                have h2 := hQr.kn (x := (xm, mdO sp lvv)) (by simp)
                rw [e, e2] at h1
                simp only at h2
                rw [h2] at h1
                simp [mdO] at h1) (by simp [HM.out.ps1.2]) HLM.out.2.1 (by have := hlen1.out; have := hkl.out; omega) hll (by have := hlen1.out; have := hkl.out; omega))
            obtain ⟨pa, pc, rfl⟩ := HM.out.row.slice
            clear hQ hQr hPr1 hPr2 hll
            go_wp2_with fail
            refine HT.out.mono ?_
            rintro _ w4 ⟨f, lvv2, ll2, rfl, hQ4, hf1, hf2, hf3, hll2⟩
            have HROW := Lib.hid (HPR.out w4 (fun x hx => hQ4.kn (by simp [hx])))
            have HLL := Lib.hid hll2
            have HPL := Lib.hid (HM.out.pl.step hlt hf1 hn256 (fun x hx => by
              obtain ⟨L', _, hbs⟩ := hQ4.toMB.ex
              exact (hbs.held (List.mem_append_left _ hx)).2) hf3)
            have hQ5 := hQ4.add (Nat.le_refl _) ((Keep.refl [] w4).alloc _) (al_new w4 (.cells #[.int .i64 (f : Int)] 3) rfl)
            have HROW5 := Lib.hid (HROW.out.keep (S := []) ((Keep.refl [] w4).alloc (.cells #[.int .i64 (f : Int)] 3)) (by simp))
            have HFB : Hid (w4.heap.size ≠ xm ∧ w4.heap.size ≠ xm + 1 ∧ xm + 1 < w4.heap.size) := Lib.hid (by
              have := ob_lt (hQ4.kn (x := (xm + 1, b66 lf' (plc pg l))) (by simp))
              simp only at this
              omega)
            have HQ5 := Lib.hid hQ5
            have hlo := hQ5.kn (x := (xm + 1, b66 lf' (plc pg l))) (by simp)
            obtain ⟨pl, hpl⟩ : ∃ q, plc pg l = q := ⟨_, rfl⟩
            have HPLC := Lib.hid hpl
            rw [hpl] at hlo
            clear hpl hQ4 hQ5 hll2 HT hf1 hf2 hf3 HROW HPR
            go_upto_region 17 with fail
            generalize w4.alloc (.cells #[.int .i64 (f : Int)] 3) = w5 at *
            generalize w4.heap.size = fb at *
            have l0 : w5.cell? ⟨xm + 1, 0, none⟩ = some (.int .i64 (lf' : Int)) := cell_of_ob hlo 0
            have l1 : w5.cell? ⟨xm + 1, 1, none⟩ = some (.int .i64 (pl : Int)) := cell_of_ob hlo 1
            have ll0 := ob_lt hlo
            clear hlo
            go_upto_region 18 with fail
            rw [HPLC.out] at HQ5
            have HAB : Hid (w5.heap.size ≠ xm ∧ w5.heap.size ≠ xm + 1) := Lib.hid (by omega)
            have HQ6 := Lib.hid (HQ5.out.add (Nat.le_refl _) ((Keep.refl [] w5).alloc _) (al_new w5 (.cells #[.int .i64 (lf' : Int), .int .i64 (pl : Int)] 66) rfl))
            have HROW6 := Lib.hid (HROW5.out.keep (S := []) ((Keep.refl [] w5).alloc (.cells #[.int .i64 (lf' : Int), .int .i64 (pl : Int)] 66)) (by simp))
            clear l0 l1 ll0 HQ5 HROW5
            generalize w5.alloc (.cells #[.int .i64 (lf' : Int), .int .i64 (pl : Int)] 66) = w6 at *
            generalize w5.heap.size = ab at *
            have HQ7 : Hid (MQ w w6 bd m g n R M (H' ++ [f]) F ((xm, mdO sp lvv2) :: (xm + 1, b66 lf' pl) :: (ab, b66 lf' pl) :: (fb, b3 f) :: P) lvv2 ll2) := Lib.hid (HQ6.out.sub (fun x hx => by
              simp only [List.mem_cons] at hx
              simp only [List.mem_cons, List.mem_append, List.cons_append, b66, b3]
              rcases hx with h | h | h | h | h
              · exact .inr (.inr (.inl h))
              · exact .inr (.inr (.inr (.inl h)))
              · exact .inl h
              · exact .inr (.inl h)
              · exact .inr (.inr (.inr (.inr (.inl h))))))
            obtain ⟨va, vc, w7, happ, hQ8, hROW8⟩ := HQ7.out.push70 (fun x hx => by
              simp only [List.mem_cons] at hx
              rcases hx with rfl | rfl | rfl | rfl | h
              · rfl
              · rfl
              · rfl
              · rfl
              · exact (HM.out.dx x h).2.2) HROW6.out (ab, fb) (by have := HM.out.len; have := hkl.out; omega)
            have HQ8 := Lib.hid hQ8
            have HROW8 := Lib.hid hROW8
            clear hQ8 hROW8 HQ6 HQ7 HROW6
            unfold cloV at happ
            have hlo := HQ8.out.kn (x := (xm + 1, b66 lf' pl)) (by simp)
            have hfo := HQ8.out.kn (x := (fb, b3 f)) (by simp)
            have f0 : w7.cell? ⟨fb, 0, none⟩ = some (.int .i64 (f : Int)) := cell_of_ob hfo 0
            have l0 : w7.cell? ⟨xm + 1, 0, none⟩ = some (.int .i64 (lf' : Int)) := cell_of_ob hlo 0
            have l1 : w7.cell? ⟨xm + 1, 1, none⟩ = some (.int .i64 (pl : Int)) := cell_of_ob hlo 1
            have q0 := free_of_ob hlo 0
            have q1 := free_of_ob hlo 1
            have lx0 := ob_lt hlo
            have lx1 := ob_lt hfo
            have HLO := Lib.hid hlo
            clear hlo hfo
            have hIX := pIndex w7 pg (l + 1) (by omega) (by omega)
            obtain ⟨pn, hpn⟩ : ∃ q, plc pg (l + 1) = q := ⟨_, rfl⟩
            have HPN := Lib.hid hpn
            rw [hpn] at hIX
            clear hpn
            have HIX := Lib.hid (show Calls Try.prog 24 #[.int .i64 (pg : Int), .int .i64 ((l : Int) + 1)] w7 _ from hIX)
            clear hIX
            go_upto_region 19 with (at_builtin; refine wpList_append_eq rfl _ _ _ rfl rfl rfl (happ _) ?_)
            clear happ
            go_wp2_with fail
            refine HIX.out.mono ?_
            rintro _ w8 ⟨rfl, rfl⟩
            clear HIX
            have hwl : IntKind.i64.wrap ((l : Int) + 1 + 1) = (l : Int) + 1 + 1 := IntWalk.i64_in _ (by omega)
            go_wp2_with fail
            have kS : Keep [xm + 1] w7 ((w7.setCell ⟨xm + 1, 0, none⟩ (.int .i64 (f : Int))).setCell ⟨xm + 1, 1, none⟩ (.int .i64 (pn : Int))) := ((Keep.refl _ _).setCell (.inl (by simp)) _ _).setCell (.inl (by simp)) _ _
            have hob : ob ((w7.setCell ⟨xm + 1, 0, none⟩ (.int .i64 (f : Int))).setCell ⟨xm + 1, 1, none⟩ (.int .i64 (pn : Int))) (xm + 1) = some (b66 f pn) := st_same (st_same HLO.out)
            have hQ9 := (HQ8.out.sub (P' := (xm + 1, b66 lf' pl) :: (xm, mdO sp lvv2) :: (ab, b66 lf' pl) :: (fb, b3 f) :: P) (fun x hx => by
              simp only [List.mem_cons] at hx ⊢
              rcases hx with h | h | h
              · exact .inr (.inl h)
              · exact .inl h
              · exact .inr (.inr h))).set (fun x hx => by
              simp only [List.mem_cons] at hx
              rcases hx with rfl | rfl | rfl | h
              · exact HLM.out.1
              · exact HAB.out.2
              · exact HFB.out.2.1
              · exact (HM.out.dx x h).2.1) HLM.out.2.2.1 kS hob
            have HQ9 : Hid (MQ w ((w7.setCell ⟨xm + 1, 0, none⟩ (.int .i64 (f : Int))).setCell ⟨xm + 1, 1, none⟩ (.int .i64 (pn : Int))) bd m g n R M (H' ++ [f]) F ((xm, mdO sp lvv2) :: (xm + 1, b66 f pn) :: (ab, b66 lf' pl) :: (fb, b3 f) :: P) lvv2 ll2) := Lib.hid (hQ9.sub (fun x hx => by
              simp only [List.mem_cons] at hx ⊢
              rcases hx with h | h | h
              · exact .inr (.inl h)
              · exact .inl h
              · exact .inr (.inr h)))
            have HROW9 := Lib.hid (HROW8.out.keep kS (fun b hb hm => by
              simp only [List.mem_singleton] at hm
              subst hm
              obtain ⟨cs, ho⟩ := row_ob HROW8.out hb
              rw [HLO.out] at ho
              simp [b66] at ho))
            clear f0 l0 l1 q0 q1 lx0 lx1 kS hob hQ9 HQ8 HROW8 HLO hwl
            generalize ((w7.setCell ⟨xm + 1, 0, none⟩ (.int .i64 (f : Int))).setCell ⟨xm + 1, 1, none⟩ (.int .i64 (pn : Int))) = w9 at *
            go_roundg (2 - (l + 1))
            case measure => omega
            case rel =>
              refine ⟨l + 1, ps ++ [(lf', plc pg l, f)], bs ++ [(ab, fb)], f, H' ++ [f], lvU lv' f (some (l + 1)), (ab, b66 lf' pl) :: (fb, b3 f) :: P, by go_num, by omega, ?_, rfl⟩
              have h1 := hlen1.out
              have h2 := hkl.out
              have h3 := HM.out.len
              refine ⟨HPL.out, ⟨lvv2, ll2, by rw [HPN.out]; exact HQ9.out, by have := HLL.out; simp; omega⟩, HROW9.out, by simp; omega, by simp; omega, by simp; omega, fun x hx => ?_, ⟨HLM.out.1, HLM.out.2.1, HLM.out.2.2.1⟩, ⟨List.mem_cons_of_mem _ (List.mem_cons_of_mem _ HM.out.ps1.1), List.mem_cons_of_mem _ (List.mem_cons_of_mem _ HM.out.ps1.2)⟩, fun i a b ha hb => ?_⟩
              · simp only [List.mem_cons] at hx
                rcases hx with rfl | rfl | h
                · exact ⟨HAB.out.1, HAB.out.2, rfl⟩
                · exact ⟨HFB.out.1, HFB.out.2.1, rfl⟩
                · exact HM.out.dx x h
              · by_cases hi : i < ps.length
                · rw [List.getElem?_append_left hi] at ha
                  rw [List.getElem?_append_left (by omega)] at hb
                  obtain ⟨y1, y2⟩ := HM.out.bx i a b ha hb
                  exact ⟨List.mem_cons_of_mem _ (List.mem_cons_of_mem _ y1), List.mem_cons_of_mem _ (List.mem_cons_of_mem _ y2)⟩
                · have hi2 := (List.getElem?_eq_some_iff.1 ha).1
                  simp only [List.length_append, List.length_cons, List.length_nil] at hi2
                  obtain rfl : i = ps.length := by omega
                  rw [List.getElem?_append_right (Nat.le_refl _), Nat.sub_self] at ha
                  rw [h3, List.getElem?_append_right (Nat.le_refl _), Nat.sub_self] at hb
                  simp only [List.getElem?_cons_zero, Option.some.injEq] at ha hb
                  subst ha
                  subst hb
                  rw [HPLC.out]
                  exact ⟨.head _, List.mem_cons_of_mem _ (.head _)⟩
          · obtain rfl : l = 2 := by omega
            have hk3f : ¬ ((2 : Nat) : Int) + 1 < 3 := by omega
            obtain ⟨pa, pc, rfl⟩ := HM.out.row.slice
            go_wp2_with fail
            obtain ⟨lvv0, ll0, hQ0, _⟩ := HM.out.q
            have HQ0 := Lib.hid (hQ0.drop)
            have HROW0 := Lib.hid HM.out.row
            have hen := en22
            clear hQ0 hk3f
            go_loopg [100] bs.length (fun gn s100 wz => ∃ (i : Nat), s100 = .int .i64 (i : Int) ∧ i ≤ bs.length ∧ MQ w wz bd m g n R (applyPs M (ps.take i)) H' F ((xm + 1, b66 lf' (plc pg 2)) :: P) lvv0 ll0 ∧ RowE (E70 sb) 70 wz w.heap.size (.slice pa bs.length pc) bs ∧ gn = bs.length - i)
            case atStart => exact ⟨0, rfl, by omega, HQ0.out, HROW0.out, rfl⟩
            case round =>
              clear HQ0 HROW0
              obtain ⟨i, rfl, hib, hQi, hRi, hgi⟩ := hrel
              have HQi := Lib.hid hQi
              have HRi := Lib.hid hRi
              clear hQi hRi
              by_cases hlt2 : i < bs.length
              · have hlen := HM.out.len
                obtain ⟨a, ha⟩ : ∃ a, ps[i]? = some a := ⟨ps[i], List.getElem?_eq_getElem (by omega)⟩
                obtain ⟨b, hb⟩ : ∃ b, bs[i]? = some b := ⟨bs[i], List.getElem?_eq_getElem hlt2⟩
                have HBX := Lib.hid (HM.out.bx i a b ha hb)
                have HAM := Lib.hid (HM.out.pl.ok a (List.mem_of_getElem? ha))
                have HAP : Hid (applyPs M (ps.take (i + 1)) = updE (applyPs M (ps.take i)) a.1 a.2.1 (eT a.2.2)) := Lib.hid (by
                  rw [← applyPs_snoc, List.take_add_one, ha]; rfl)
                obtain ⟨g0, cap0, e0, hg1, hg2, hg3, hg4, hg5⟩ := HRi.out.get hb
                simp only [Value.slice.injEq] at e0
                obtain ⟨rfl, _, rfl⟩ := e0
                have rc : wr.cell? ⟨g0, i, none⟩ = some (.func (.func 22) #[] #[.pointer (some ⟨sb, 0, none⟩), .pointer (some ⟨b.1, 0, none⟩), .pointer (some ⟨b.2, 0, none⟩)]) := by
                  have := hg5 0 _ rfl
                  rw [Nat.mul_one, Nat.add_zero] at this
                  exact this
                have hi' : (i : Int) < (bs.length : Int) := by omega
                have HC := Lib.hid (sPut1 wr m bd g n r sp sb b.1 b.2 _ HQi.out.me a.1 a.2.1 a.2.2 (HQi.out.kn (x := (sp, spO m bd r)) (by simp [HM.out.ps1.2])) (HQi.out.kn (x := (sb, b32 sp)) (by simp [HM.out.ps1.1])) (HQi.out.kn (x := (b.1, b66 a.1 a.2.1)) (by simp [HBX.out.1])) (HQi.out.kn (x := (b.2, b3 a.2.2)) (by simp [HBX.out.2])) HAM.out.1 HAM.out.2.1 HAM.out.2.2)
                clear hg5 ha hb hlen
                go_wp2_with fail
                refine HC.out.mono ?_
                rintro _ w5 ⟨rfl, hM5, hK5⟩
                rw [← HAP.out] at hM5
                have HQ5 := Lib.hid (HQi.out.mem hK5 hM5)
                have HR5 := Lib.hid (HRi.out.keep hK5 (fun b hb hm => by
                  simp only [List.mem_singleton] at hm
                  subst hm
                  obtain ⟨cs, ho⟩ := row_ob HRi.out hb
                  exact HQi.out.me.gne ho (by decide) rfl))
                clear hM5 hK5 HQi HRi HC rc hi'
                have hwi : IntKind.i64.wrap ((i : Int) + 1) = ((i + 1 : Nat) : Int) := by rw [IntWalk.i64_in _ (by unfold maxLen at hg4; omega)]; rfl
                go_wp2_with fail
                go_roundg (bs.length - (i + 1))
                case measure => omega
                case rel => exact ⟨i + 1, by go_num, by omega, HQ5.out, HR5.out, rfl⟩
              · obtain rfl : i = bs.length := by omega
                have htk : ps.take bs.length = ps := List.take_of_length_le (by have := HM.out.len; omega)
                rw [htk] at HQi
                have hb1 := HQi.out.kn (x := (sb, b32 sp)) (by simp [HM.out.ps1.1])
                have hs1 := HQi.out.kn (x := (sp, spO m bd r)) (by simp [HM.out.ps1.2])
                have hl1 := HQi.out.kn (x := (xm + 1, b66 lf' (plc pg 2))) (by simp)
                obtain ⟨pl, hpl⟩ : ∃ q, plc pg 2 = q := ⟨_, rfl⟩
                have HPLC := Lib.hid hpl
                rw [hpl] at hl1
                have b0 : wr.cell? ⟨sb, 0, none⟩ = some (.pointer (some ⟨sp, 0, none⟩)) := cell_of_ob hb1 0
                have s0 : wr.cell? ⟨sp, 0, none⟩ = some (.pointer (some ⟨m, 0, none⟩)) := cell_of_ob hs1 0
                have l0 : wr.cell? ⟨xm + 1, 0, none⟩ = some (.int .i64 (lf' : Int)) := cell_of_ob hl1 0
                have l1 : wr.cell? ⟨xm + 1, 1, none⟩ = some (.int .i64 (pl : Int)) := cell_of_ob hl1 1
                have n1 := ob_lt hb1
                have n2 := ob_lt hs1
                have n3 := ob_lt hl1
                have HLAST := Lib.hid (HM.out.pl.last ww (fr := fr))
                have HLF : Hid (lf' < n ∧ pl < 16) := Lib.hid ⟨by
                  obtain ⟨L', _, hbs⟩ := HQi.out.toMB.ex
                  exact (hbs.held (HM.out.pl.mv.own lf' (by rw [HM.out.pl.lvl (by omega)]; simp))).2, by rw [← hpl]; exact plc_lt _ _⟩
                rw [hpl] at HLAST
                clear hb1 hs1 hl1 htk hpl
                go_wp2_with fail
                go_still_tail 11, (by kernel_rfl)
                have HQ5 := Lib.hid (HQi.out.new ((Keep.refl [] wr).drew))
                clear b0 s0 l0 l1 n1 n2 n3 HQi HRi
                change wpList _ _ _ _ _ wr.drew
                generalize wr.drew = w5 at *
                go_wp2_with fail
                refine (pPut w5 m g n _ HQ5.out.me lf' pl HLF.out.1 HLF.out.2 ⟨true, ww, false, fr⟩ (by unfold okE; simp; omega)).mono ?_
                rintro _ w6 ⟨rfl, hM6, hK6⟩
                have HQ6 := Lib.hid (HQ5.out.mem hK6 hM6)
                clear hM6 hK6 HQ5
                go_wp2_with fail
                go_ret
                refine ⟨0, _, H', lv', rfl, HQ6.out.toMB, HLAST.out.1, HLAST.out.2.2.1, HLAST.out.2.1, by have := HM.out.hl; have := HM.out.kl; omega, fun _ _ => ⟨rfl, ?_⟩⟩
                unfold fEI
                rw [HE.out, Int.toNat_natCast, if_pos rfl]
                exact HLAST.out.2.2.2
end Go.Proofs.Ytehmjjfgefopdaa
