import Derived.Test.YtehmjjfgefopdaaZb
namespace Go.Proofs.Ytehmjjfgefopdaa
open Go.RowKit
set_option linter.unusedSimpArgs false
set_option linter.unusedVariables false
attribute [local go_sem] ob_alloc ob_drew ob_drewN ob_setCell ob_setBlock objSet_cells obMap_map obClock_map isMapI_map keyI_mk findI_nil findI_cons lookRes_some lookRes_none lookRes_some' lookRes_none' setBlock_alloc mapPut

/-! ### TopSpaces -/
set_option maxRecDepth 100000 in
set_option maxHeartbeats 1000000 in
theorem eql38 (a3 b3 : Int) (a0 a1 a2 b0 b1 b2 : Bool) (w : World) :
    (binOp .eql 38 (.agg #[.bool a0, .bool a1, .bool a2, .int .i64 a3]) (.agg #[.bool b0, .bool b1, .bool b2, .int .i64 b3])).run Try.prog w = .ok (.bool (decide (a0 = b0 ∧ a1 = b1 ∧ a2 = b2 ∧ a3 = b3))) w := by
  go_simp
  simp [ite_okb]
set_option maxRecDepth 100000 in
set_option maxHeartbeats 1000000 in
theorem neq38 (a3 b3 : Int) (a0 a1 a2 b0 b1 b2 : Bool) (w : World) :
    (binOp .neq 38 (.agg #[.bool a0, .bool a1, .bool a2, .int .i64 a3]) (.agg #[.bool b0, .bool b1, .bool b2, .int .i64 b3])).run Try.prog w = .ok (.bool (!decide (a0 = b0 ∧ a1 = b1 ∧ a2 = b2 ∧ a3 = b3))) w := by
  go_simp
  simp [ite_okn]
def iVs (xs : List Int) : List Value := xs.map (Value.int .i64)
theorem iVs_get {xs : List Int} {i : Nat} {x : Int} (h : xs[i]? = some x) : (iVs xs)[i]? = some (.int .i64 x) := by
  unfold iVs; rw [List.getElem?_map, h]; rfl
theorem iVs_len (xs : List Int) : (iVs xs).length = xs.length := List.length_map ..
/-- an element of a slice of numbers -/
theorem Rd.elt {w : World} {v : Value} {xs : List Int} (h : Rd w v (iVs xs)) {i : Nat} {x : Int} (hi : xs[i]? = some x) : ∃ b off cap, v = .slice (some ⟨b, off, none⟩) xs.length cap ∧ w.cell? ⟨b, off + i, none⟩ = some (.int .i64 x) ∧ b < w.heap.size := by
  have h0 := (List.getElem?_eq_some_iff.1 hi).1
  obtain ⟨b, off, cap, hv, _, _, hc⟩ := h.pos (by rw [iVs_len]; omega)
  rw [iVs_len] at hv
  exact ⟨b, off, cap, hv, hc i _ (iVs_get hi), World.block_lt_of_cell? (a := ⟨b, off + i, none⟩) w (hc i _ (iVs_get hi))⟩
/-- an entry's cells -/
def eCell (e : EN) : Nat → Value
  | 0 => .bool e.v
  | 1 => .bool e.w
  | 2 => .bool e.t
  | _ => .int .i64 (e.f : Int)
def wasF (E : Nat → EN) (i q : Nat) : Value := if q / 4 < i then eCell (E (q / 4)) (q % 4) else eCell eZ (q % 4)
theorem wasF_at (E : Nat → EN) {i j c : Nat} (hj : j < i) (hc : c < 4) : wasF E i (j * 4 + c) = eCell (E j) c := by
  unfold wasF
  rw [show (j * 4 + c) / 4 = j by omega, show (j * 4 + c) % 4 = c by omega, if_pos hj]
theorem wasF_set (E : Nat → EN) (i q : Nat) : upd (upd (upd (upd (wasF E i) (i * 4) (.bool (E i).v)) (i * 4 + 1) (.bool (E i).w)) (i * 4 + 2) (.bool (E i).t)) (i * 4 + 3) (.int .i64 ((E i).f : Int)) q = wasF E (i + 1) q := by
  unfold upd
  by_cases e3 : q = i * 4 + 3
  · rw [if_pos e3, e3, wasF_at E (by omega) (by omega)]; rfl
  · rw [if_neg e3]
    by_cases e2 : q = i * 4 + 2
    · rw [if_pos e2, e2, wasF_at E (by omega) (by omega)]; rfl
    · rw [if_neg e2]
      by_cases e1 : q = i * 4 + 1
      · rw [if_pos e1, e1, wasF_at E (by omega) (by omega)]; rfl
      · rw [if_neg e1]
        by_cases e0 : q = i * 4
        · rw [if_pos e0, e0, ← Nat.add_zero (i * 4), wasF_at E (by omega) (by omega)]; rfl
        · rw [if_neg e0]
          unfold wasF
          by_cases h : q / 4 < i
          · rw [if_pos h, if_pos (by omega)]
          · rw [if_neg h, if_neg (by omega)]
theorem info38m : (Try.prog.info? 38).map (fun i => (i.zero, i.size, i.bytes)) = some (some (.agg #[.bool false, .bool false, .bool false, .int .i64 0]), 4, 16) := by kernel_rfl
theorem make36 (n : Nat) (hn : n ≤ 256) (E : Nat → EN) (w : World) : (Instr.makeSlice 36 (.int .i64 (n : Int)) (.int .i64 (n : Int))).run Try.prog w = .ok (.slice (some ⟨w.heap.size, 0, none⟩) n n) (w.alloc (.cells (blk (wasF E 0) (n * 4)) 38)) := by
  obtain ⟨i, hi, hz⟩ := Option.map_eq_some_iff.1 info38m
  simp only [Prod.mk.injEq] at hz
  obtain ⟨h1, h2, h3⟩ := hz
  have hr := run_make (P := Try.prog) (w := w) 36 38 i _ Try.underlying36 hi h1 .i64 .i64 n n (by omega) (by omega) (by rw [h3]; omega) (by omega)
  simp only [Int.toNat_natCast, h2] at hr
  have e : madeCells (Value.agg #[.bool false, .bool false, .bool false, .int .i64 0]).cells (n * 4) = blk (wasF E 0) (n * 4) := by
    apply Array.ext
    · simp [madeCells, blk]
    · intro j h1 h2
      have hc : j % 4 = 0 ∨ j % 4 = 1 ∨ j % 4 = 2 ∨ j % 4 = 3 := by omega
      simp only [madeCells, blk, wasF, List.getElem_toArray, List.getElem_map, List.getElem_range, Nat.not_lt_zero, if_false, Value.cells]
      rcases hc with h | h | h | h <;> simp [h, eCell, eZ]
  rw [hr, e]
def pbO (s0 s1 : Value) : Obj := .cells #[s0, s1] 23 (0, 0)
set_option maxRecDepth 100000 in
set_option maxHeartbeats 16000000 in
theorem top03 (W : World) (s0 s1 tk : Value) (p0 p1 pt : List Int) (h0 : Rd W s0 (iVs p0)) (h1 : Rd W s1 (iVs p1)) (ht : Rd W tk (iVs pt)) :
    Calls Try.prog 3 #[.agg #[s0, s1], tk] W fun e W' => e = .returned (.bool true) ∧ Keep [] W W' := by
  obtain ⟨a0, c0, hs0, _⟩ := h0.len
  obtain ⟨a1, c1, hs1, _⟩ := h1.len
  obtain ⟨at', ct, hst, _⟩ := ht.len
  rw [iVs_len] at hs0 hs1 hst
  subst hs0 hs1 hst
  have H0 := Lib.hid h0
  have H1 := Lib.hid h1
  have HT := Lib.hid ht
  have HPB := Lib.hid (al_new W (pbO (.slice a0 p0.length c0) (.slice a1 p1.length c1)) rfl)
  have HK := Lib.hid ((Keep.refl [] W).alloc (pbO (.slice a0 p0.length c0) (.slice a1 p1.length c1)))
  unfold pbO at HPB HK
  clear h0 h1 ht
  go_enter Try.func3, Try.ntmps3
  go_wp2_with fail
  obtain ⟨pb, hpb⟩ : ∃ pb, W.heap.size = pb := ⟨_, rfl⟩
  have HPBE := Lib.hid hpb
  rw [hpb] at HPB
  rw [hpb]
  clear hpb
  generalize W.alloc (.cells #[.slice a0 p0.length c0, .slice a1 p1.length c1] 23) = w1 at *
  refine (sMapped w1).mono ?_
  rintro _ w2 ⟨rfl, hK2⟩
  have HPB2 := Lib.hid (hK2.kp HPB.out (by simp))
  have HK2 := Lib.hid (HK.out.trans hK2)
  clear hK2 HPB HK
  have HN := Lib.hid (mNew_ok 200 (by omega) (by omega) w2)
  go_wp2_with fail
  refine HN.out.mono ?_
  rintro _ w3 ⟨rfl, hM3, hK3, hz3⟩
  have HM3 := Lib.hid (MemE.zero hM3)
  have HPB3 := Lib.hid (hK3.kp HPB2.out (by simp))
  have HK3 := Lib.hid (HK2.out.trans hK3)
  obtain ⟨m, hm⟩ : ∃ m, w2.heap.size + 1 = m := ⟨_, rfl⟩
  obtain ⟨g, hg⟩ : ∃ g, w2.heap.size = g := ⟨_, rfl⟩
  have HG := Lib.hid hg
  rw [hm, hg] at HM3
  rw [hm]
  clear hM3 hK3 hm hg HN hz3
  go_wp2_with fail
  refine (bNew w3 m g 200 100 _ HM3.out (by omega)).mono ?_
  rintro _ w4 ⟨bd, L, F, rfl, hB, hS, hK4, hG4, _⟩
  have HST : Hid (ST W w4 bd m g 200 100 (fun _ _ => eZ) []) := Lib.hid (ST.begin (HM3.out.keep hK4 (by simp) (by simp)) hB hS (HK3.out.trans hK4) (by rw [← HG.out]; exact HK2.out.size) (fun b hb => by
    rcases hG4 b hb with h | h
    · cases h
    · have := HK3.out.size; omega))
  have HPB4 := Lib.hid (hK4.kp HPB3.out (by simp))
  clear hB hS hK4 hG4 HM3 HK3 HPB3 HPB2 HK2
  go_wp2_with fail
  refine (HST.out.space (by simp)).mono ?_
  rintro _ w5 ⟨rs, sp, rfl, ho5, hST5, hy5, _⟩
  have HPB5 := Lib.hid (hy5 _ _ _ _ HPB4.out rfl rfl (by decide))
  have HST5 := Lib.hid hST5
  have HO5 := Lib.hid ho5
  clear ho5 hST5 hy5 HPB4 HST
  go_wp2_with fail
  refine (HST5.out.space (by simp)).mono ?_
  rintro _ w6 ⟨rt, tp, rfl, ho6, hST6, hy6, hrt⟩
  have HPB6 := Lib.hid (hy6 _ _ _ _ HPB5.out rfl rfl (by decide))
  have hrst : rt ≠ rs := by simpa using hrt
  have HTS : Hid (TS W w6 bd m g 200 100 sp tp rs rt (fun _ _ => eZ) ([] ++ [rs] ++ [rt]) (lv0 rs) (lv0 rt)) := Lib.hid ⟨hST6, Sp.new (fun _ _ => rfl), Sp.new (fun _ _ => rfl), fun f hf => by
    have := lv0_ne.1 hf
    subst this
    unfold lv0
    rw [if_neg (fun e => hrst e.symm)], fun f => by rw [lv0_ne, lv0_ne]; simp, fun f _ p _ => rfl, hy6.sp HO5.out, ho6⟩
  clear ho6 hST6 hy6 hrt hrst HO5 HST5 HPB5
  have c0' : w6.cell? ⟨pb, 0, none⟩ = some (.slice a0 p0.length c0) := cell_of_ob HPB6.out 0
  have c1' : w6.cell? ⟨pb, 1, none⟩ = some (.slice a1 p1.length c1) := cell_of_ob HPB6.out 1
  have lpb := ob_lt HPB6.out
  rcases (show (20 < p0.length) ∨ (¬ 20 < p0.length ∧ 20 < p1.length) ∨ (¬ 20 < p0.length ∧ ¬ 20 < p1.length ∧ 20 < pt.length) ∨ (¬ 20 < p0.length ∧ ¬ 20 < p1.length ∧ ¬ 20 < pt.length) by omega) with b | ⟨b0, b⟩ | ⟨b0, b1, b⟩ | ⟨b0, b1, b2⟩
  · have d : decide ((20 : Int) < (p0.length : Int)) = true := by simp; omega
    go_wp2_with fail
    go_ret
    exact ⟨rfl, HTS.out.st.kp⟩
  · have d0 : decide ((20 : Int) < (p0.length : Int)) = false := by simp; omega
    have d : decide ((20 : Int) < (p1.length : Int)) = true := by simp; omega
    go_wp2_with fail
    go_ret
    exact ⟨rfl, HTS.out.st.kp⟩
  · have d0 : decide ((20 : Int) < (p0.length : Int)) = false := by simp; omega
    have d1 : decide ((20 : Int) < (p1.length : Int)) = false := by simp; omega
    have d : decide ((20 : Int) < (pt.length : Int)) = true := by simp; omega
    go_wp2_with fail
    go_ret
    exact ⟨rfl, HTS.out.st.kp⟩
  · have d0 : decide ((20 : Int) < (p0.length : Int)) = false := by simp; omega
    have d1 : decide ((20 : Int) < (p1.length : Int)) = false := by simp; omega
    have d2 : decide ((20 : Int) < (pt.length : Int)) = false := by simp; omega
    go_wp2_with fail
    clear d0 d1 d2 c0' c1' lpb
    have HB := Lib.hid (And.intro b0 (And.intro b1 b2))
    go_loopg [14] p0.length (fun gn s14 wr => ∃ (i : Nat) (M : Nat → Nat → EN) (H : List Nat) (lvs : LV), s14 = .int .i64 (i : Int) ∧ i ≤ p0.length ∧ TS W wr bd m g 200 100 sp tp rs rt M H lvs (lv0 rt) ∧ ob wr pb = some (.cells #[.slice a0 p0.length c0, .slice a1 p1.length c1] 23 (0, 0)) ∧ H.length ≤ 2 + 2 * i ∧ gn = p0.length - i)
    case atStart => exact ⟨0, _, _, _, rfl, by omega, HTS.out, HPB6.out, by simp, rfl⟩
    case round =>
      clear HTS HPB6
      obtain ⟨i, M, H, lvs, rfl, hi, hT, hP, hHl, hgi⟩ := hrel
      have HT1 := Lib.hid hT
      have HP1 := Lib.hid hP
      have c0' : wr.cell? ⟨pb, 0, none⟩ = some (.slice a0 p0.length c0) := cell_of_ob hP 0
      have lpb := ob_lt hP
      clear hT hP
      by_cases hlt : i < p0.length
      · obtain ⟨x, hx⟩ : ∃ x, p0[i]? = some x := ⟨p0[i], List.getElem?_eq_getElem hlt⟩
        obtain ⟨sb, off, cap, e, hc, hl⟩ := (H0.out.keep HT1.out.st.kp (by simp)).elt hx
        simp only [Value.slice.injEq] at e
        obtain ⟨rfl, _, rfl⟩ := e
        have hi' : (i : Int) < (p0.length : Int) := by omega
        have HC := Lib.hid (fun ww => HT1.out.map (by omega) x i (by omega) ww)
        have hwi : IntKind.i64.wrap ((i : Int) + 1) = ((i + 1 : Nat) : Int) := by rw [IntWalk.i64_in _ (by omega)]; rfl
        clear hx
        go_wp2_with fail
        refine (HC.out _).mono ?_
        rintro _ w7 ⟨v, M', H', lv', rfl, hT7, hy7, hl7, _⟩
        have HT7 := Lib.hid hT7
        have HP7 := Lib.hid (hy7 _ _ _ _ HP1.out rfl rfl (by decide))
        clear hT7 hy7 HC c0' hc hl lpb hi'
        go_wp2_with fail
        go_roundg (p0.length - (i + 1))
        case measure => omega
        case rel => exact ⟨i + 1, M', H', lv', by go_num, by omega, HT7.out, HP7.out, by omega, rfl⟩
      · obtain rfl : i = p0.length := by omega
        obtain ⟨E0, hE0⟩ : ∃ E0 : Int → EN, fEI M rs = E0 := ⟨_, rfl⟩
        have HE0 : Hid (∀ p, fEI M rs p = E0 p) := Lib.hid (fun p => by rw [hE0])
        obtain ⟨E, hE⟩ : ∃ E : Nat → EN, ∀ j x, p0[j]? = some x → E j = E0 x := ⟨fun j => E0 (p0.getD j 0), fun j x h => by show E0 (p0.getD j 0) = E0 x; rw [List.getD_eq_getElem?_getD, h]; rfl⟩
        have HE := Lib.hid hE
        have hmk := make36 p0.length (by omega) E
        clear hE hE0
        go_wp2_with fail
        have HT2 := Lib.hid (HT1.out.new ((Keep.refl [] wr).alloc (.cells (blk (wasF E 0) (p0.length * 4)) 38)))
        have HP2 := Lib.hid (al HP1.out (o' := .cells (blk (wasF E 0) (p0.length * 4)) 38))
        have HW2 := Lib.hid (al_new wr (.cells (blk (wasF E 0) (p0.length * 4)) 38) rfl)
        have HWB := Lib.hid HT1.out.st.kp.size
        clear HT1 HP1 c0' lpb hmk
        generalize wr.alloc (.cells (blk (wasF E 0) (p0.length * 4)) 38) = w7 at *
        generalize wr.heap.size = wb at *
        go_loopg [16] p0.length (fun gn s16 wr => ∃ (i : Nat), s16 = .int .i64 (i : Int) ∧ i ≤ p0.length ∧ TS W wr bd m g 200 100 sp tp rs rt M H lvs (lv0 rt) ∧ ob wr pb = some (.cells #[.slice a0 p0.length c0, .slice a1 p1.length c1] 23 (0, 0)) ∧ ob wr wb = some (.cells (blk (wasF E i) (p0.length * 4)) 38 (0, 0)) ∧ gn = p0.length - i)
        case atStart => exact ⟨0, rfl, by omega, HT2.out, HP2.out, HW2.out, rfl⟩
        case round =>
          clear HT2 HP2 HW2
          obtain ⟨i, rfl, hi, hT, hP, hW, hgi⟩ := hrel
          have HT1 := Lib.hid hT
          have HP1 := Lib.hid hP
          have HW1 := Lib.hid hW
          have c0' : wr.cell? ⟨pb, 0, none⟩ = some (.slice a0 p0.length c0) := cell_of_ob hP 0
          have lpb := ob_lt hP
          clear hT hP hW
          by_cases hlt : i < p0.length
          · obtain ⟨x, hx⟩ : ∃ x, p0[i]? = some x := ⟨p0[i], List.getElem?_eq_getElem hlt⟩
            obtain ⟨sb, off, cap, e, hc, hl⟩ := (H0.out.keep HT1.out.st.kp (by simp)).elt hx
            simp only [Value.slice.injEq] at e
            obtain ⟨rfl, _, rfl⟩ := e
            have hi' : (i : Int) < (p0.length : Int) := by omega
            have hf := HT1.out.find x
            have HEi := Lib.hid (HE.out i x hx)
            rw [HE0.out x, ← HEi.out] at hf
            obtain ⟨en, hen⟩ : ∃ en, E i = en := ⟨_, rfl⟩
            have HEN := Lib.hid hen
            rw [hen] at hf
            obtain ⟨ev, ew, et, ef⟩ := en
            unfold FindP EN.val at hf
            have HC := Lib.hid hf
            have hwi : IntKind.i64.wrap ((i : Int) + 1) = ((i + 1 : Nat) : Int) := by rw [IntWalk.i64_in _ (by omega)]; rfl
            clear hx hf hen
            go_wp2_with fail
            refine HC.out.mono ?_
            rintro _ w8 ⟨hk8, c8, rfl⟩
            have kk : Keep [] wr (w8.alloc (.cells #[.bool ev, .bool ew, .bool et, .int .i64 (ef : Int)] 38)) := hk8.alloc _
            have HT8 := Lib.hid (HT1.out.new kk)
            have HP8 := Lib.hid (kk.kp HP1.out (by simp))
            have HW8 := Lib.hid (kk.kp HW1.out (by simp))
            have HX8 := Lib.hid (al_new w8 (.cells #[.bool ev, .bool ew, .bool et, .int .i64 (ef : Int)] 38) rfl)
            have HBX : Hid (W.heap.size ≤ w8.heap.size ∧ wb < w8.heap.size) := Lib.hid ⟨(HT1.out.st.kp.trans hk8).size, ob_lt (hk8.kp HW1.out (by simp))⟩
            clear hk8 kk HC c0' hc hl lpb HT1 HP1 HW1
            go_upto_region 17 with fail
            generalize w8.alloc (.cells #[.bool ev, .bool ew, .bool et, .int .i64 (ef : Int)] 38) = w9 at *
            have x0 : w9.cell? ⟨w8.heap.size, 0, none⟩ = some (.bool ev) := cell_of_ob HX8.out 0
            have x1 : w9.cell? ⟨w8.heap.size, 1, none⟩ = some (.bool ew) := cell_of_ob HX8.out 1
            have x2 : w9.cell? ⟨w8.heap.size, 2, none⟩ = some (.bool et) := cell_of_ob HX8.out 2
            have x3 : w9.cell? ⟨w8.heap.size, 3, none⟩ = some (.int .i64 (ef : Int)) := cell_of_ob HX8.out 3
            have lx := ob_lt HX8.out
            have d0 := blk_cell HW8.out (i := i * 4) (by omega)
            have d1 := blk_cell HW8.out (i := i * 4 + 1) (by omega)
            have d2 := blk_cell HW8.out (i := i * 4 + 2) (by omega)
            have d3 := blk_cell HW8.out (i := i * 4 + 3) (by omega)
            have g0 := free_of_ob HW8.out (i * 4)
            have g1 := free_of_ob HW8.out (i * 4 + 1)
            have g2 := free_of_ob HW8.out (i * 4 + 2)
            have g3 := free_of_ob HW8.out (i * 4 + 3)
            have lw := ob_lt HW8.out
            go_wp2_with fail
            have kS : Keep [wb] w9 ((((w9.setCell ⟨wb, i * 4, none⟩ (.bool ev)).setCell ⟨wb, i * 4 + 1, none⟩ (.bool ew)).setCell ⟨wb, i * 4 + 2, none⟩ (.bool et)).setCell ⟨wb, i * 4 + 3, none⟩ (.int .i64 (ef : Int))) := ((((Keep.refl _ _).setCell (.inl (by simp)) _ _).setCell (.inl (by simp)) _ _).setCell (.inl (by simp)) _ _).setCell (.inl (by simp)) _ _
            have HT10 := Lib.hid (HT8.out.wr HW8.out rfl rfl (by decide) (by decide) (by decide) HWB.out kS)
            have HP10 := Lib.hid (kS.kp HP8.out (fun hm => by
              simp only [List.mem_singleton] at hm
              have := HP8.out
              rw [hm, HW8.out] at this
              simp at this))
            have HW10 : Hid (ob ((((w9.setCell ⟨wb, i * 4, none⟩ (.bool ev)).setCell ⟨wb, i * 4 + 1, none⟩ (.bool ew)).setCell ⟨wb, i * 4 + 2, none⟩ (.bool et)).setCell ⟨wb, i * 4 + 3, none⟩ (.int .i64 (ef : Int))) wb = some (.cells (blk (wasF E (i + 1)) (p0.length * 4)) 38 (0, 0))) := Lib.hid (by
              rw [blk_store (blk_store (blk_store (blk_store HW8.out _ _) _ _) _ _) _ _, blk_congr (g := wasF E (i + 1)) (fun q hq => ?_)]
              have := wasF_set E i q
              rw [HEN.out] at this
              exact this)
            go_roundg (p0.length - (i + 1))
            case measure => omega
            case rel => exact ⟨i + 1, by go_num, by omega, HT10.out, HP10.out, HW10.out, rfl⟩
          · obtain rfl : i = p0.length := by omega
            have c1' : wr.cell? ⟨pb, 1, none⟩ = some (.slice a1 p1.length c1) := cell_of_ob HP1.out 1
            go_wp2_with fail
            go_loopg [19] p1.length (fun gn s19 wr => ∃ (i : Nat) (M : Nat → Nat → EN) (H : List Nat) (lvt : LV), s19 = .int .i64 (i : Int) ∧ i ≤ p1.length ∧ TS W wr bd m g 200 100 sp tp rs rt M H lvs lvt ∧ ob wr pb = some (.cells #[.slice a0 p0.length c0, .slice a1 p1.length c1] 23 (0, 0)) ∧ ob wr wb = some (.cells (blk (wasF E p0.length) (p0.length * 4)) 38 (0, 0)) ∧ H.length ≤ 42 + 2 * i ∧ (∀ p, fEI M rs p = E0 p) ∧ gn = p1.length - i)
            case atStart => exact ⟨0, M, H, lv0 rt, rfl, by omega, HT1.out, HP1.out, HW1.out, by omega, HE0.out, rfl⟩
            case round =>
              clear HT1 HP1 HW1 HE0 c0' c1' lpb hHl hgi
              obtain ⟨i, M, H, lvt, rfl, hi, hT, hP, hW, hHl, hE, hgi⟩ := hrel
              have HT1 := Lib.hid hT
              have HP1 := Lib.hid hP
              have HW1 := Lib.hid hW
              have HE0 := Lib.hid hE
              have c1' : wr.cell? ⟨pb, 1, none⟩ = some (.slice a1 p1.length c1) := cell_of_ob hP 1
              have lpb := ob_lt hP
              clear hT hP hW hE
              by_cases hlt : i < p1.length
              · obtain ⟨x, hx⟩ : ∃ x, p1[i]? = some x := ⟨p1[i], List.getElem?_eq_getElem hlt⟩
                obtain ⟨sb, off, cap, e, hc, hl⟩ := (H1.out.keep HT1.out.st.kp (by simp)).elt hx
                simp only [Value.slice.injEq] at e
                obtain ⟨rfl, _, rfl⟩ := e
                have hi' : (i : Int) < (p1.length : Int) := by omega
                have hm := HT1.out.swap.map (by omega) x (50 + i) (by omega) true
                rw [show ((50 + i : Nat) : Int) = 50 + (i : Int) by omega] at hm
                have HC := Lib.hid hm
                have hwi : IntKind.i64.wrap ((i : Int) + 1) = ((i + 1 : Nat) : Int) := by rw [IntWalk.i64_in _ (by omega)]; rfl
                have hw50 : IntKind.i64.wrap (50 + (i : Int)) = 50 + (i : Int) := IntWalk.i64_in _ (by omega)
                clear hx hm
                go_wp2_with fail
                refine HC.out.mono ?_
                rintro _ w7 ⟨v, M', H', lv', rfl, hT7, hy7, hl7, hE7⟩
                have HT7 := Lib.hid hT7.swap
                have HP7 := Lib.hid (hy7 _ _ _ _ HP1.out rfl rfl (by decide))
                have HW7 := Lib.hid (hy7 _ _ _ _ HW1.out rfl rfl (by decide))
                have HE7 : Hid (∀ p, fEI M' rs p = E0 p) := Lib.hid (fun p => by rw [hE7, HE0.out])
                clear hT7 hy7 HC c1' hc hl lpb hi' hE7 hw50
                go_wp2_with fail
                go_roundg (p1.length - (i + 1))
                case measure => omega
                case rel => exact ⟨i + 1, M', H', lv', by go_num, by omega, HT7.out, HP7.out, HW7.out, by omega, HE7.out, rfl⟩
              · obtain rfl : i = p1.length := by omega
                go_wp2_with fail
                go_loopg [20] pt.length (fun gn s20 wr => ∃ (i : Nat) (M : Nat → Nat → EN) (H : List Nat) (lvt : LV), s20 = .int .i64 (i : Int) ∧ i ≤ pt.length ∧ TS W wr bd m g 200 100 sp tp rs rt M H lvs lvt ∧ ob wr pb = some (.cells #[.slice a0 p0.length c0, .slice a1 p1.length c1] 23 (0, 0)) ∧ ob wr wb = some (.cells (blk (wasF E p0.length) (p0.length * 4)) 38 (0, 0)) ∧ (∀ p, fEI M rs p = E0 p) ∧ gn = pt.length - i)
                case atStart => exact ⟨0, M, H, lvt, rfl, by omega, HT1.out, HP1.out, HW1.out, HE0.out, rfl⟩
                case round =>
                  clear HT1 HP1 HW1 HE0 c1' lpb hHl hgi
                  obtain ⟨i, M, H, lvt, rfl, hi, hT, hP, hW, hE, hgi⟩ := hrel
                  have HT1 := Lib.hid hT
                  have HP1 := Lib.hid hP
                  have HW1 := Lib.hid hW
                  have HE0 := Lib.hid hE
                  clear hT hP hW hE
                  by_cases hlt : i < pt.length
                  · obtain ⟨x, hx⟩ : ∃ x, pt[i]? = some x := ⟨pt[i], List.getElem?_eq_getElem hlt⟩
                    obtain ⟨sb, off, cap, e, hc, hl⟩ := (HT.out.keep HT1.out.st.kp (by simp)).elt hx
                    simp only [Value.slice.injEq] at e
                    obtain ⟨rfl, _, rfl⟩ := e
                    have hi' : (i : Int) < (pt.length : Int) := by omega
                    have HC := Lib.hid (HT1.out.swap.unmap x)
                    have hwi : IntKind.i64.wrap ((i : Int) + 1) = ((i + 1 : Nat) : Int) := by rw [IntWalk.i64_in _ (by omega)]; rfl
                    clear hx
                    go_wp2_with fail
                    refine HC.out.mono ?_
                    rintro _ w7 ⟨v, M', H', lv', rfl, hT7, hy7, hE7⟩
                    have HT7 := Lib.hid hT7.swap
                    have HP7 := Lib.hid (hy7 _ _ _ _ HP1.out rfl rfl (by decide))
                    have HW7 := Lib.hid (hy7 _ _ _ _ HW1.out rfl rfl (by decide))
                    have HE7 : Hid (∀ p, fEI M' rs p = E0 p) := Lib.hid (fun p => by rw [hE7, HE0.out])
                    clear hT7 hy7 HC hc hl hi' hE7
                    go_wp2_with fail
                    go_roundg (pt.length - (i + 1))
                    case measure => omega
                    case rel => exact ⟨i + 1, M', H', lv', by go_num, by omega, HT7.out, HP7.out, HW7.out, HE7.out, rfl⟩
                  · obtain rfl : i = pt.length := by omega
                    have c0' : wr.cell? ⟨pb, 0, none⟩ = some (.slice a0 p0.length c0) := cell_of_ob HP1.out 0
                    have lpb := ob_lt HP1.out
                    go_wp2_with fail
                    go_loopg [21] p0.length (fun gn s21 wr => ∃ (i : Nat), s21 = .int .i64 (i : Int) ∧ i ≤ p0.length ∧ TS W wr bd m g 200 100 sp tp rs rt M H lvs lvt ∧ ob wr pb = some (.cells #[.slice a0 p0.length c0, .slice a1 p1.length c1] 23 (0, 0)) ∧ ob wr wb = some (.cells (blk (wasF E p0.length) (p0.length * 4)) 38 (0, 0)) ∧ gn = p0.length - i)
                    case atStart => exact ⟨0, rfl, by omega, HT1.out, HP1.out, HW1.out, rfl⟩
                    case round =>
                      clear HT1 HP1 HW1 c0' lpb hgi
                      obtain ⟨i, rfl, hi, hT, hP, hW, hgi⟩ := hrel
                      have HT1 := Lib.hid hT
                      have HP1 := Lib.hid hP
                      have HW1 := Lib.hid hW
                      have c0' : wr.cell? ⟨pb, 0, none⟩ = some (.slice a0 p0.length c0) := cell_of_ob hP 0
                      have lpb := ob_lt hP
                      clear hT hP hW
                      by_cases hlt : i < p0.length
                      · obtain ⟨x, hx⟩ : ∃ x, p0[i]? = some x := ⟨p0[i], List.getElem?_eq_getElem hlt⟩
                        obtain ⟨sb, off, cap, e, hc, hl⟩ := (H0.out.keep HT1.out.st.kp (by simp)).elt hx
                        simp only [Value.slice.injEq] at e
                        obtain ⟨rfl, _, rfl⟩ := e
                        have hi' : (i : Int) < (p0.length : Int) := by omega
                        have hf := HT1.out.find x
                        have HEi := Lib.hid (HE.out i x hx)
                        rw [HE0.out x, ← HEi.out] at hf
                        obtain ⟨en, hen⟩ : ∃ en, E i = en := ⟨_, rfl⟩
                        have HEN := Lib.hid hen
                        rw [hen] at hf
                        obtain ⟨ev, ew, et, ef⟩ := en
                        unfold FindP EN.val at hf
                        have HC := Lib.hid hf
                        have hwi : IntKind.i64.wrap ((i : Int) + 1) = ((i + 1 : Nat) : Int) := by rw [IntWalk.i64_in _ (by omega)]; rfl
                        clear hx hf hen
                        go_wp2_with fail
                        refine HC.out.mono ?_
                        rintro _ w8 ⟨hk8, c8, rfl⟩
                        have kk : Keep [] wr (w8.alloc (.cells #[.bool ev, .bool ew, .bool et, .int .i64 (ef : Int)] 38)) := hk8.alloc _
                        have HT8 := Lib.hid (HT1.out.new kk)
                        have HP8 := Lib.hid (kk.kp HP1.out (by simp))
                        have HW8 := Lib.hid (kk.kp HW1.out (by simp))
                        have HX8 := Lib.hid (al_new w8 (.cells #[.bool ev, .bool ew, .bool et, .int .i64 (ef : Int)] 38) rfl)
                        clear hk8 kk HC c0' hc hl lpb HT1 HP1 HW1
                        go_upto_region 30 with fail
                        generalize w8.alloc (.cells #[.bool ev, .bool ew, .bool et, .int .i64 (ef : Int)] 38) = w9 at *
                        generalize w8.heap.size = xb at *
                        have x0 : w9.cell? ⟨xb, 0, none⟩ = some (.bool ev) := cell_of_ob HX8.out 0
                        have x1 : w9.cell? ⟨xb, 1, none⟩ = some (.bool ew) := cell_of_ob HX8.out 1
                        have x2 : w9.cell? ⟨xb, 2, none⟩ = some (.bool et) := cell_of_ob HX8.out 2
                        have x3 : w9.cell? ⟨xb, 3, none⟩ = some (.int .i64 (ef : Int)) := cell_of_ob HX8.out 3
                        have lx := ob_lt HX8.out
                        have d0 : w9.cell? ⟨wb, i * 4, none⟩ = some (.bool ev) := by rw [← Nat.add_zero (i * 4), blk_cell HW8.out (by omega), wasF_at E hlt (by omega), HEN.out]; rfl
                        have d1 : w9.cell? ⟨wb, i * 4 + 1, none⟩ = some (.bool ew) := by rw [blk_cell HW8.out (by omega), wasF_at E hlt (by omega), HEN.out]; rfl
                        have d2 : w9.cell? ⟨wb, i * 4 + 2, none⟩ = some (.bool et) := by rw [blk_cell HW8.out (by omega), wasF_at E hlt (by omega), HEN.out]; rfl
                        have d3 : w9.cell? ⟨wb, i * 4 + 3, none⟩ = some (.int .i64 (ef : Int)) := by rw [blk_cell HW8.out (by omega), wasF_at E hlt (by omega), HEN.out]; rfl
                        have lw := ob_lt HW8.out
                        have hq : ∀ W, (binOp .neq 38 (.agg #[.bool ev, .bool ew, .bool et, .int .i64 (ef : Int)]) (.agg #[.bool ev, .bool ew, .bool et, .int .i64 (ef : Int)])).run Try.prog W = .ok (.bool false) W := fun W => by rw [neq38]; simp
                        go_region
                        have HT9 := Lib.hid (HT8.out.new ((Keep.refl [] w9).drew))
                        have HP9 := Lib.hid (dr HP8.out)
                        have HW9 := Lib.hid (dr HW8.out)
                        clear x0 x1 x2 x3 lx d0 d1 d2 d3 lw HT8 HP8 HW8 HX8 hq hi'
                        generalize w9.drew = w10 at *
                        go_wp2_with fail
                        go_roundg (p0.length - (i + 1))
                        case measure => omega
                        case rel => exact ⟨i + 1, by go_num, by omega, HT9.out, HP9.out, HW9.out, rfl⟩
                      · obtain rfl : i = p0.length := by omega
                        go_wp2_with fail
                        clear c0' lpb
                        refine HT1.out.tables.mono ?_
                        rintro _ w8 ⟨hk8, va, ya, rfl, hra, hya, hla⟩
                        obtain ⟨aa, ca, rfl⟩ := hra.slice
                        have HT2 := Lib.hid (HT1.out.new hk8)
                        have HP2 := Lib.hid (hk8.kp HP1.out (by simp))
                        have HW2 := Lib.hid (hk8.kp HW1.out (by simp))
                        have HRA := Lib.hid hra
                        have HYA := Lib.hid hya
                        clear hk8 hra hya HT1 HP1 HW1 hgi
                        go_wp2_with fail
                        refine HT2.out.swap.tables.mono ?_
                        rintro _ w9 ⟨hk9, vc, yc, rfl, hrc, hyc, hlc⟩
                        obtain ⟨ac, cc, rfl⟩ := hrc.slice
                        have HT3 := Lib.hid (HT2.out.new hk9)
                        have HP3 := Lib.hid (hk9.kp HP2.out (by simp))
                        have HW3 := Lib.hid (hk9.kp HW2.out (by simp))
                        have HRA3 := Lib.hid (HRA.out.keep hk9 (by simp))
                        have HRC := Lib.hid hrc
                        have HYC := Lib.hid hyc
                        clear hk9 hrc hyc HT2 HP2 HW2 HRA
                        go_wp2_with fail
                        go_loopg [26] ya.length (fun gn s26 wr => ∃ (i : Nat), s26 = .int .i64 (i : Int) ∧ i ≤ ya.length ∧ Keep [] w9 wr ∧ gn = ya.length - i)
                        case atStart => exact ⟨0, rfl, by omega, Keep.refl _ _, rfl⟩
                        case round =>
                          obtain ⟨i, rfl, hi, hKi, hgi⟩ := hrel
                          have HKi := Lib.hid hKi
                          clear hKi
                          by_cases hlt : i < ya.length
                          · have hi' : (i : Int) < (ya.length : Int) := by omega
                            obtain ⟨x, hx⟩ : ∃ x, ya[i]? = some x := ⟨ya[i], List.getElem?_eq_getElem hlt⟩
                            have HX := Lib.hid hx
                            have hxs := (HYA.out x).1 (List.mem_of_getElem? hx)
                            have hwi : IntKind.i64.wrap ((i : Int) + 1) = ((i + 1 : Nat) : Int) := by rw [IntWalk.i64_in _ (by omega)]; rfl
                            clear hx
                            go_wp2_with fail
                            go_loopg [27] yc.length (fun gn s27 wr => ∃ (k : Nat), s27 = .int .i64 (k : Int) ∧ k ≤ yc.length ∧ Keep [] w9 wr ∧ gn = yc.length - k)
                            case atStart => exact ⟨0, rfl, by omega, HKi.out, rfl⟩
                            case round =>
                              clear HKi
                              obtain ⟨k, rfl, hk, hKk, hgk⟩ := hrel
                              have HKk := Lib.hid hKk
                              clear hKk
                              by_cases hltk : k < yc.length
                              · have hk' : (k : Int) < (yc.length : Int) := by omega
                                obtain ⟨y, hy⟩ : ∃ y, yc[k]? = some y := ⟨yc[k], List.getElem?_eq_getElem hltk⟩
                                have hys := (HYC.out y).1 (List.mem_of_getElem? hy)
                                have hxy : x ≠ y := fun e => hys (by rw [← e]; exact HT3.out.dj x hxs)
                                have hxyi : ((x : Int) == (y : Int)) = false := by simp; omega
                                obtain ⟨ga, cpa, ea, _, _, hna, hma, h5a⟩ := (HRA3.out.keep HKk.out (by simp)).get HX.out
                                obtain ⟨gc, cpc, ec, _, _, hnc, hmc, h5c⟩ := (HRC.out.keep HKk.out (by simp)).get hy
                                simp only [Value.slice.injEq] at ea ec
                                obtain ⟨rfl, _, rfl⟩ := ea
                                obtain ⟨rfl, _, rfl⟩ := ec
                                have ra : wr.cell? ⟨ga, i, none⟩ = some (.int .i64 (x : Int)) := by
                                  have := h5a 0 _ rfl
                                  rw [Nat.mul_one, Nat.add_zero] at this
                                  exact this
                                have rc : wr.cell? ⟨gc, k, none⟩ = some (.int .i64 (y : Int)) := by
                                  have := h5c 0 _ rfl
                                  rw [Nat.mul_one, Nat.add_zero] at this
                                  exact this
                                have la : ga < wr.heap.size := World.block_lt_of_cell? (a := ⟨ga, i, none⟩) wr ra
                                have lc : gc < wr.heap.size := World.block_lt_of_cell? (a := ⟨gc, k, none⟩) wr rc
                                have hwk : IntKind.i64.wrap ((k : Int) + 1) = ((k + 1 : Nat) : Int) := by rw [IntWalk.i64_in _ (by omega)]; rfl
                                clear h5a h5c hy hys
                                go_wp2_with fail
                                go_region
                                have HK2 := Lib.hid (HKk.out.drew)
                                clear ra rc la lc hxyi
                                generalize wr.drew = w10 at *
                                go_wp2_with fail
                                go_roundg (yc.length - (k + 1))
                                case measure => omega
                                case rel => exact ⟨k + 1, by go_num, by omega, HK2.out, rfl⟩
                              · obtain rfl : k = yc.length := by omega
                                go_wp2_with fail
                                go_roundg (ya.length - (i + 1))
                                case measure => omega
                                case rel => exact ⟨i + 1, by go_num, by omega, HKk.out, rfl⟩
                          · obtain rfl : i = ya.length := by omega
                            have HT4 := Lib.hid (HT3.out.new HKi.out)
                            have HP4 := Lib.hid (HKi.out.kp HP3.out (by simp))
                            have HW4 := Lib.hid (HKi.out.kp HW3.out (by simp))
                            obtain ⟨L4, F4, b1', b2', b3'⟩ := HT4.out.st.call
                            have HCL := Lib.hid (sClose wr bd m g 200 100 rt tp M L4 H F4 lvt HT4.out.st.me b1' b2' HT4.out.ot HT4.out.tt HT4.out.swap.sown)
                            have HB4 := Lib.hid b3'
                            clear b1' b2' b3' HT3 HP3 HW3 HKi HRA3 HRC
                            go_wp2_with fail
                            refine HCL.out.mono ?_
                            rintro _ w11 ⟨v, M', H', rfl, hmb, hH', hM'⟩
                            obtain ⟨hst, hy⟩ := HB4.out w11 M' H' hmb
                            have hsame : ∀ f, lvs f ≠ none → ∀ p, M' f p = M f p := fun f hf => hM' f (HT4.out.dj f hf)
                            have HST := Lib.hid hst
                            have HSP := Lib.hid (HT4.out.ss.congr hsame)
                            have HOS := Lib.hid (hy.sp HT4.out.os)
                            have HP5 := Lib.hid (hy _ _ _ _ HP4.out rfl rfl (by decide))
                            have HW5 := Lib.hid (hy _ _ _ _ HW4.out rfl rfl (by decide))
                            have HE5 : Hid (∀ p, fEI M' rs p = E0 p) := Lib.hid (fun p => by
                              rw [← HE0.out p]
                              unfold fEI
                              split
                              · exact fE_same HT4.out.ss hsame _
                              · rfl)
                            have HH5 : Hid (∀ f, f ∈ H' ↔ lvs f ≠ none) := Lib.hid (fun f => by
                              rw [hH' f, HT4.out.hd f]
                              constructor
                              · rintro ⟨h1 | h1, h2⟩
                                · exact h1
                                · exact absurd h2 h1
                              · intro h
                                exact ⟨.inl h, HT4.out.dj f h⟩)
                            clear hmb hH' hM' hst hy hsame HT4 HP4 HW4 HCL HB4 HE0
                            have c0' : w11.cell? ⟨pb, 0, none⟩ = some (.slice a0 p0.length c0) := cell_of_ob HP5.out 0
                            have lpb := ob_lt HP5.out
                            go_wp2_with fail
                            go_loopg [28] p0.length (fun gn s28 wr => ∃ (i : Nat), s28 = .int .i64 (i : Int) ∧ i ≤ p0.length ∧ Keep [] w11 wr ∧ gn = p0.length - i)
                            case atStart => exact ⟨0, rfl, by omega, Keep.refl _ _, rfl⟩
                            case round =>
                              clear c0' lpb
                              obtain ⟨i, rfl, hi, hKi, hgi⟩ := hrel
                              have HKi := Lib.hid hKi
                              have c0' : wr.cell? ⟨pb, 0, none⟩ = some (.slice a0 p0.length c0) := cell_of_ob (hKi.kp HP5.out (by simp)) 0
                              have lpb := ob_lt (hKi.kp HP5.out (by simp))
                              clear hKi
                              by_cases hlt : i < p0.length
                              · obtain ⟨x, hx⟩ : ∃ x, p0[i]? = some x := ⟨p0[i], List.getElem?_eq_getElem hlt⟩
                                obtain ⟨sb, off, cap, e, hc, hl⟩ := (H0.out.keep (HST.out.kp.trans HKi.out) (by simp)).elt hx
                                simp only [Value.slice.injEq] at e
                                obtain ⟨rfl, _, rfl⟩ := e
                                have hi' : (i : Int) < (p0.length : Int) := by omega
                                have HEi := Lib.hid (HE.out i x hx)
                                obtain ⟨en, hen⟩ : ∃ en, E i = en := ⟨_, rfl⟩
                                have HEN := Lib.hid hen
                                obtain ⟨ev, ew, et, ef⟩ := en
                                have HWK : Hid (∀ Wd, Keep [] wr Wd → Calls Try.prog 13 #[.pointer (some ⟨m, 0, none⟩), .int .i64 (rs : Int), .int .i64 x] Wd fun o w' => Keep [] Wd w' ∧ ∃ (v : Value) (c : Int), o = .returned (.tuple #[.agg #[.bool ev, .bool ew, .bool et, .int .i64 (ef : Int)], v, .int .i64 c]) ∧ (c = 0 ↔ ev = true)) := Lib.hid (fun Wd kW => by
                                  have h := pWalkX Wd m g 200 M' (HST.out.me.keep (HKi.out.trans kW) (by simp) (by simp)) rs lvs HSP.out (fun f hf => by
                                    obtain ⟨L', F', _, hbs, _⟩ := HST.out.ex
                                    exact (hbs.held ((HH5.out f).2 hf)).2) x
                                  unfold WkX at h
                                  rw [HE5.out x, ← HEi.out, hen] at h
                                  exact h)
                                have HRT : Hid (∀ Wd, Keep [] wr Wd → Calls Try.prog 14 #[.pointer (some ⟨sp, 0, none⟩)] Wd fun o w' => o = .returned (.int .i64 (rs : Int)) ∧ w' = Wd) := Lib.hid (fun Wd kW => sRoot Wd sp m bd rs ((HKi.out.trans kW).kp HOS.out (by simp)))
                                have HPW := Lib.hid (HKi.out.kp HP5.out (by simp))
                                have HSB : Hid (∀ Wd, Keep [] wr Wd → Wd.cell? ⟨sb, off + i, none⟩ = some (.int .i64 x)) := Lib.hid (fun Wd kW => by
                                  rw [cell_ob, kW.block sb hl (by simp), ← cell_ob]; exact hc)
                                have hwi : IntKind.i64.wrap ((i : Int) + 1) = ((i + 1 : Nat) : Int) := by rw [IntWalk.i64_in _ (by omega)]; rfl
                                clear hx hen
                                go_wp2_with fail
                                go_cut [29, 30, 31] from 223 to 263 (fun s29 s30 s31 wx => ∃ (xb : Nat) (c : Int), s29 = .pointer (some ⟨xb, 0, none⟩) ∧ s31 = .int .i64 c ∧ Keep [] wr wx ∧ ob wx xb = some (.cells #[.bool ev, .bool ew, .bool et, .int .i64 (ef : Int)] 38 (0, 0)) ∧ (c = 0 ↔ ev = true))
                                case first =>
                                  have a0c : ∀ o, (wr.alloc o).drew.cell? ⟨pb, 0, none⟩ = some (.slice (some ⟨sb, off, none⟩) p0.length c0) := fun o => cell_of_ob (dr (al HPW.out)) 0
                                  have a1c : ∀ o, (wr.alloc o).drew.cell? ⟨sb, off + i, none⟩ = some (.int .i64 x) := fun o => HSB.out _ (((Keep.refl _ _).alloc _).drew)
                                  have hnp : pb ≠ wr.heap.size := by omega
                                  have hnp2 : wr.heap.size ≠ pb := hnp.symm
                                  have hns : sb ≠ wr.heap.size := by omega
                                  have hns2 : wr.heap.size ≠ sb := hns.symm
                                  go_region_held3 (fun w' => w'.cell? ⟨pb, 0, none⟩ = some (.slice (some ⟨sb, off, none⟩) p0.length c0) ∧ w'.cell? ⟨sb, off + i, none⟩ = some (.int .i64 x)) (first | (with_reducible exact ⟨c0', hc⟩) | (with_reducible exact ⟨a0c _, a1c _⟩) | (refine ⟨?_, ?_⟩ <;> with_reducible assumption) | (with_reducible exact ⟨b0c _, b1c _⟩) | go_keep) (first | (go_at_call 14; refine (HRT.out _ (((Keep.refl _ _).alloc _).drew)).mono ?_; rintro _ _ ⟨rfl, rfl⟩) | (go_at_call 14; refine (HRT.out _ ((Keep.refl _ _).drew)).mono ?_; rintro _ _ ⟨rfl, rfl⟩) | (go_at_call 13; refine (HWK.out _ (((Keep.refl _ _).alloc _).drew)).mono ?_; rintro _ w4 ⟨hk4, v4, c4, rfl, hc4⟩; have y4 := hk4.kp (dr (al_new wr (.cells #[.bool false, .bool false, .bool false, .int .i64 0] 38) rfl)) (fun h => by cases h); have m0 : w4.cell? ⟨pb, 0, none⟩ = some (.slice (some ⟨sb, off, none⟩) p0.length c0) := cell_of_ob (hk4.kp (dr (al HPW.out)) (fun h => by cases h)) 0; have m2 : w4.cell? ⟨sb, off + i, none⟩ = some (.int .i64 x) := HSB.out w4 ((((Keep.refl _ _).alloc _).drew).trans hk4); have d0 : w4.cell? ⟨wr.heap.size, 0, none⟩ = some (.bool false) := cell_of_ob y4 0; have d1 : w4.cell? ⟨wr.heap.size, 1, none⟩ = some (.bool false) := cell_of_ob y4 1; have d2 : w4.cell? ⟨wr.heap.size, 2, none⟩ = some (.bool false) := cell_of_ob y4 2; have d3 : w4.cell? ⟨wr.heap.size, 3, none⟩ = some (.int .i64 0) := cell_of_ob y4 3; have g0 := free_of_ob y4 0; have g1 := free_of_ob y4 1; have g2 := free_of_ob y4 2; have g3 := free_of_ob y4 3) | (go_at_call 13; refine (HWK.out _ ((Keep.refl _ _).drew)).mono ?_; rintro _ w4 ⟨hk4, v4, c4, rfl, hc4⟩; have x4 := hk4.kp (dr HPW.out) (fun h => by cases h); have m0 : w4.cell? ⟨pb, 0, none⟩ = some (.slice (some ⟨sb, off, none⟩) p0.length c0) := cell_of_ob x4 0; have m2 : w4.cell? ⟨sb, off + i, none⟩ = some (.int .i64 x) := HSB.out w4 (((Keep.refl _ _).drew).trans hk4); have b0c : ∀ o, (w4.alloc o).cell? ⟨pb, 0, none⟩ = some (.slice (some ⟨sb, off, none⟩) p0.length c0) := fun o => cell_of_ob (al x4) 0; have b1c : ∀ o, (w4.alloc o).cell? ⟨sb, off + i, none⟩ = some (.int .i64 x) := fun o => HSB.out _ ((((Keep.refl _ _).drew).trans hk4).alloc _)))
                                  all_goals
                                    go_wp2_with fail
                                    go_meet
                                    first
                                      | (with_reducible exact ⟨_, c4, rfl, rfl, (((Keep.refl _ wr).drew).trans hk4).alloc _, al_new w4 _ rfl, hc4⟩)
                                      | (with_reducible exact ⟨_, c4, rfl, rfl, (((((((Keep.refl _ wr).alloc _).drew).trans hk4).setCell (.inr (Nat.le_refl _)) _ _).setCell (.inr (Nat.le_refl _)) _ _).setCell (.inr (Nat.le_refl _)) _ _).setCell (.inr (Nat.le_refl _)) _ _, st_same (st_same (st_same (st_same y4))), hc4⟩)
                                case rest =>
                                  obtain ⟨xb, c, rfl, rfl, hKx, hXx, hcx⟩ := hcut
                                  have HKW := Lib.hid (HKi.out.trans hKx)
                                  have hW := HKW.out.kp HW5.out (by simp)
                                  have x0 : wc.cell? ⟨xb, 0, none⟩ = some (.bool ev) := cell_of_ob hXx 0
                                  have x1 : wc.cell? ⟨xb, 1, none⟩ = some (.bool ew) := cell_of_ob hXx 1
                                  have x2 : wc.cell? ⟨xb, 2, none⟩ = some (.bool et) := cell_of_ob hXx 2
                                  have x3 : wc.cell? ⟨xb, 3, none⟩ = some (.int .i64 (ef : Int)) := cell_of_ob hXx 3
                                  have lx := ob_lt hXx
                                  have d0 : wc.cell? ⟨wb, i * 4, none⟩ = some (.bool ev) := by rw [← Nat.add_zero (i * 4), blk_cell hW (by omega), wasF_at E hlt (by omega), HEN.out]; rfl
                                  have d1 : wc.cell? ⟨wb, i * 4 + 1, none⟩ = some (.bool ew) := by rw [blk_cell hW (by omega), wasF_at E hlt (by omega), HEN.out]; rfl
                                  have d2 : wc.cell? ⟨wb, i * 4 + 2, none⟩ = some (.bool et) := by rw [blk_cell hW (by omega), wasF_at E hlt (by omega), HEN.out]; rfl
                                  have d3 : wc.cell? ⟨wb, i * 4 + 3, none⟩ = some (.int .i64 (ef : Int)) := by rw [blk_cell hW (by omega), wasF_at E hlt (by omega), HEN.out]; rfl
                                  have lw := ob_lt hW
                                  have hq : ∀ W, (binOp .neq 38 (.agg #[.bool ev, .bool ew, .bool et, .int .i64 (ef : Int)]) (.agg #[.bool ev, .bool ew, .bool et, .int .i64 (ef : Int)])).run Try.prog W = .ok (.bool false) W := fun W => by rw [neq38]; simp
                                  clear hXx hW hKx HWK HRT HPW HSB c0' lpb hc hl
                                  by_cases hc0 : c = 0
                                  · subst hc0
                                    clear hcx
                                    go_wp2_with fail
                                    go_quiet (fail)
                                    clear x0 x1 x2 x3 lx d0 d1 d2 d3 lw hq hi'
                                    go_wp2_with fail
                                    go_roundg (p0.length - (i + 1))
                                    case measure => omega
                                    case rel => exact ⟨i + 1, by go_num, by omega, HKW.out.drewN _, rfl⟩
                                  · obtain rfl : ev = false := by
                                      cases ev with
                                      | false => rfl
                                      | true => exact absurd (hcx.2 rfl) hc0
                                    have hcb : (c == 0) = false := by simpa using hc0
                                    clear hcx
                                    go_wp2_with fail
                                    go_quiet (fail)
                                    clear x0 x1 x2 x3 lx d0 d1 d2 d3 lw hq hi'
                                    go_wp2_with fail
                                    go_roundg (p0.length - (i + 1))
                                    case measure => omega
                                    case rel => exact ⟨i + 1, by go_num, by omega, HKW.out.drewN _, rfl⟩
                              · obtain rfl : i = p0.length := by omega
                                have HST2 := Lib.hid (HST.out.new HKi.out)
                                obtain ⟨L5, F5, b1', b2', b3'⟩ := HST2.out.call
                                have HCL := Lib.hid (sClose wr bd m g 200 100 rs sp M' L5 H' F5 lvs HST2.out.me b1' b2' (HKi.out.kp HOS.out (by simp)) HSP.out (fun f hf => (HH5.out f).2 hf))
                                have HB5 := Lib.hid b3'
                                clear b1' b2' b3'
                                go_wp2_with fail
                                refine HCL.out.mono ?_
                                rintro _ w12 ⟨v, M2, H2, rfl, hmb, hH2, _⟩
                                obtain ⟨hst, _⟩ := HB5.out w12 M2 H2 hmb
                                have hnil : H2 = [] := by
                                  cases e : H2 with
                                  | nil => rfl
                                  | cons f l =>
                                    have := (hH2 f).1 (by rw [e]; simp)
                                    exact absurd this.2 ((HH5.out f).1 this.1)
                                obtain ⟨L6, F6, q1, q2, _⟩ := hst.ex
                                have hl100 : left L6 = 100 := by
                                  have := q2.lf
                                  rw [hnil] at this
                                  simp at this
                                  omega
                                have HLF := Lib.hid (bLeft w12 bd m L6 H2 F6 q1 (by omega))
                                rw [hl100] at HLF
                                have HSF := Lib.hid hst.kp
                                clear hmb hH2 hst hnil q1 q2 hl100 HCL HB5 HST2
                                go_wp2_with fail
                                refine HLF.out.mono ?_
                                rintro _ w13 ⟨rfl, rfl⟩
                                go_wp2_with fail
                                go_ret
                                exact ⟨rfl, HSF.out⟩
end Go.Proofs.Ytehmjjfgefopdaa
