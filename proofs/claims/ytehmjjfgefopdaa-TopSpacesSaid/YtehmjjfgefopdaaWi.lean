import Derived.Test.YtehmjjfgefopdaaWh
import Derived.Test.YtehmjjfgefopdaaWe
import Derived.Test.YtehmjjfgefopdaaLibT
namespace Go.Proofs.Ytehmjjfgefopdaa
open Go.RowKit
set_option linter.unusedSimpArgs false
set_option linter.unusedVariables false
attribute [local go_sem] ob_alloc ob_drew ob_drewN ob_setCell ob_setBlock objSet_cells obMap_map obClock_map isMapI_map keyI_mk findI_nil findI_cons lookRes_some lookRes_none lookRes_some' lookRes_none' setBlock_alloc mapPut

theorem ret_row_tmp2 {P : Program} {fn : Func} {p u u' : Tmp} {ty : TypeId} (h : fn.results = #[.cell p ty, .tmp u, .tmp u']) {tmps : Array Value} {w : World} {g : Nat} {t : TypeId} {cs : Array Value} {fr : Nat × Nat} {d : TypeDesc}
    (hg : ob w g = some (.cells cs t fr)) (hp : tmps.getD p undef = .pointer (some ⟨g, 0, none⟩))
    (hu : P.underlying ty = some d) (hd : (match d with | .struct _ | .array _ _ => true | _ => false) = true) (hi : (P.info? ty).map (·.size) = some cs.size) :
    (results fn tmps).run P w = .ok (.tuple #[.agg cs, tmps.getD u undef, tmps.getD u' undef]) w := by
  have hp' : tmps[p]?.getD undef = .pointer (some ⟨g, 0, none⟩) := by simpa using hp
  simp [results, h, hp', asAddr, run_loadVar_row w g t ty cs fr d hg hu hd hi]
def E66 : Enc (Nat × Nat) 2 := ⟨fun a => [vN a.1, vN a.2], fun _ => rfl, fun a u hu => by simp at hu; rcases hu with rfl | rfl <;> rfl⟩
theorem info66 : (Try.prog.info? 66).map (fun i => (i.zero, i.size, i.bytes)) = some (some (.agg #[.int .i64 0, .int .i64 0]), 2, 16) := by kernel_rfl
theorem row_ob {α : Type} {k : Nat} {E : Enc α k} {e : TypeId} {w : World} {B : Nat} {v : Value} {xs : List α} (h : RowE E e w B v xs) {b : Nat} (hb : v.ownBlock = some b) : ∃ cs, ob w b = some (.cells cs e (0, 0)) := by
  rcases h.2 with ⟨rfl, _⟩ | ⟨g, cap, cur, rfl, _, hg, _⟩
  · cases hb
  · cases hb; exact ⟨cur, hg⟩
/-- a walk, in work -/
structure KW (w0 w : World) (rb : Nat) (v : Value) (xs : List (Nat × Nat)) : Prop where
  row : RowE E66 66 w w0.heap.size v xs
  orb : ob w rb = some (.cells #[.bool false, .bool false, .bool false, .int .i64 0] 38 (0, 0))
  kp : Keep [] w0 w
section
variable {w0 w w' : World} {rb : Nat} {v : Value} {xs : List (Nat × Nat)}
theorem KW.new (h : KW w0 w rb v xs) (hk : Keep [] w w') : KW w0 w' rb v xs := ⟨h.row.keep hk (by simp), hk.kp h.orb (by simp), h.kp.trans hk⟩
theorem KW.push (h : KW w0 w rb v xs) (x : Nat × Nat) (hl : xs.length ≤ 3000) :
    ∃ va vc w2, (∀ ty, (Builtin.append_ #[44, 44] ty #[v, .slice (some ⟨w.heap.size, 0, none⟩) 1 1]).run Try.prog (w.alloc (.cells #[vN x.1, vN x.2] 66)) = .ok (.slice va (xs.length + 1) vc) w2) ∧ KW w0 w2 rb (.slice va (xs.length + 1) vc) (xs ++ [x]) := by
  have kA : Keep [] w (w.alloc (.cells #[vN x.1, vN x.2] 66)) := (Keep.refl _ _).alloc _
  have hsz := h.kp.size
  obtain ⟨va, vc, w2, g1, g2, g3, g4⟩ := (h.row.keep kA (by simp)).push (P := Try.prog) Try.underlying44 info66 rfl (by omega) x (al_new w (.cells #[vN x.1, vN x.2] 66) rfl) 1 (by omega) (by omega) (by simp; omega)
  have k2 : Keep v.ownBlock.toList w w2 := (kA.mono (by simp)).trans g3
  refine ⟨va, vc, w2, g1, g2, k2.kp h.orb (fun hm => ?_), h.kp.andThen k2 (fun b hb => by simp only [Option.mem_toList] at hb; exact .inr (ownBlock_ge h.row hb))⟩
  simp only [Option.mem_toList] at hm
  obtain ⟨cs, ho⟩ := row_ob h.row hm
  rw [h.orb] at ho
  simp at ho
end
theorem KW.rowSet {w0 w : World} {rb : Nat} {v : Value} {xs : List (Nat × Nat)} (h : KW w0 w rb v xs) (cs : List Value) : RowE E66 66 (w.setCells rb 0 cs) w0.heap.size v xs :=
  h.row.keep (S := [rb]) ((Keep.refl _ _).setCells (.inl (by simp)) _ _) (fun b hb hm => by
    simp only [List.mem_singleton] at hm
    subst hm
    obtain ⟨cs, ho⟩ := row_ob h.row hb
    rw [h.orb] at ho
    simp at ho)
/-! ### the way of a page -/
def frP (M : Nat → Nat → EN) (r pg : Nat) : Nat → Nat
  | 0 => r
  | k + 1 => (M (frP M r pg k) (plc pg k)).f
def atP (M : Nat → Nat → EN) (r pg k : Nat) : EN := M (frP M r pg k) (plc pg k)
def stP (M : Nat → Nat → EN) (r pg : Nat) : Nat → List (Nat × Nat)
  | 0 => []
  | k + 1 => stP M r pg k ++ [(frP M r pg k, plc pg k)]
theorem stP_len (M : Nat → Nat → EN) (r pg k : Nat) : (stP M r pg k).length = k := by
  induction k with
  | zero => rfl
  | succ k ih => simp [stP, ih]
def WkP (w : World) (M : Nat → Nat → EN) (r pg : Nat) : Ending → World → Prop := fun o w' => Keep [] w w' ∧ ∃ v,
  ((∃ k, k < 3 ∧ (∀ j, j < k → (atP M r pg j).v = true) ∧ (atP M r pg k).v = false ∧ o = .returned (.tuple #[eZ.val, v, .int .i64 10]) ∧ RowE E66 66 w' w.heap.size v (stP M r pg (k + 1))) ∨
   ((∀ j, j < 3 → (atP M r pg j).v = true) ∧ o = .returned (.tuple #[(atP M r pg 2).val, v, .int .i64 0]) ∧ RowE E66 66 w' w.heap.size v (stP M r pg 3)))
set_option maxRecDepth 100000 in
set_option maxHeartbeats 800000 in
theorem pWalk_bad (w : World) (m g n : Nat) (s : Nat → Int) (hM : MemAt w m g n s) (r : Nat) (hr : r < n) (pg : Int) (hp : isB pg = false) :
    Calls Try.prog 13 #[.pointer (some ⟨m, 0, none⟩), .int .i64 (r : Int), .int .i64 pg] w fun o w' => o = .returned (.tuple #[eZ.val, .slice none 0 0, .int .i64 1]) ∧ Keep [] w w' := by
  have h : ¬ (0 ≤ pg ∧ pg < 4096) := by simpa [isB] using hp
  have k1 : Keep [] w (w.alloc (.cells #[.bool false, .bool false, .bool false, .int .i64 0] 38)) := (Keep.refl _ _).alloc _
  have HO := Lib.hid (al_new w (.cells #[.bool false, .bool false, .bool false, .int .i64 0] 38) rfl)
  have HM := Lib.hid (hM.keep k1 (by simp) (by simp))
  have HK := Lib.hid k1
  have HS := Lib.hid (Nat.le_refl w.heap.size)
  clear k1 hM hp
  rcases (show pg < 0 ∨ (¬ pg < 0 ∧ 4096 ≤ pg) by omega) with h1 | h1
  all_goals
    clear h
    go_enter Try.func13, Try.ntmps13
    go_wp2_with fail
    go_step3
    go_wp2_with fail
    generalize w.alloc (.cells #[.bool false, .bool false, .bool false, .int .i64 0] 38) = w1 at *
    obtain ⟨rb, hrb⟩ : ∃ rb, w.heap.size = rb := ⟨_, rfl⟩
    have HRB := Lib.hid hrb
    rw [hrb] at HO HS
    simp only [hrb]
    clear hrb
    have hth : w1.there rb 0 4 := there_arr HO.out
    have hsz : (Try.prog.info? 38).map (·.size) = some (eC eZ).size := size38
    refine (pHas w1 m g n _ HM.out r hr).mono ?_
    rintro _ w3 ⟨rfl, rfl⟩
    go_wp2_with (first | ((with_reducible refine at_store 38 6 29 ?_); refine wpList_store_mid rfl 38 (.tmp 6) (.tmp 29) rfl rb 0 (eC eZ) rfl rfl hth hsz (eC_one _) ?_))
    try rw [Exit.noGoto_ret]
    refine bodyPost_ret (ret_row_tmp2 (P := Try.prog) Try.results13 (cs := eC eZ) (t := 38) (fr := (0, 0)) (g := rb) (store_arr HO.out rfl) rfl Try.underlying38 rfl (by rw [size38]; rfl)) rfl ?_
    exact ⟨rfl, HK.out.setCells (.inr (by have := HRB.out; omega)) _ _⟩
set_option maxRecDepth 100000 in
set_option maxHeartbeats 4000000 in
theorem pWalk (w : World) (m g n : Nat) (M : Nat → Nat → EN) (hM : MemE w m g n M) (r : Nat) (pg : Nat) (hp : pg < 4096)
    (hn : ∀ k, k < 3 → (∀ j, j < k → (atP M r pg j).v = true) → frP M r pg k < n) (ht : ∀ k, k < 3 → (∀ j, j ≤ k → (atP M r pg j).v = true) → (atP M r pg k).t = decide (k < 2)) :
    Calls Try.prog 13 #[.pointer (some ⟨m, 0, none⟩), .int .i64 (r : Int), .int .i64 (pg : Int)] w (WkP w M r pg) := by
  have hr : r < n := hn 0 (by omega) (fun j h => by omega)
  have k1 : Keep [] w (w.alloc (.cells #[.bool false, .bool false, .bool false, .int .i64 0] 38)) := (Keep.refl _ _).alloc _
  have HW : Hid (KW w (w.alloc (.cells #[.bool false, .bool false, .bool false, .int .i64 0] 38)) w.heap.size (.slice none 0 0) []) := Lib.hid ⟨RowE.nil _ _, al_new w (.cells #[.bool false, .bool false, .bool false, .int .i64 0] 38) rfl, k1⟩
  have HM := Lib.hid hM
  have HS := Lib.hid (Nat.le_refl w.heap.size)
  have HN := Lib.hid hn
  have HT := Lib.hid ht
  clear k1 hM hn ht
  have hp1 : (pg : Int) < 4096 := by omega
  go_enter Try.func13, Try.ntmps13
  go_wp2_with fail
  go_step3
  go_wp2_with fail
  generalize w.alloc (.cells #[.bool false, .bool false, .bool false, .int .i64 0] 38) = w1 at *
  obtain ⟨rb, hrb⟩ : ∃ rb, w.heap.size = rb := ⟨_, rfl⟩
  have HRB := Lib.hid hrb
  simp only [hrb] at HW HS
  simp only [hrb]
  clear hrb
  have hM1 := HM.out.keep HW.out.kp (by simp) (by simp)
  refine (pHas w1 m g n _ hM1.1 r hr).mono ?_
  rintro _ w3 ⟨rfl, rfl⟩
  clear hM1
  go_wp2_with fail
  go_step3
  go_wp2_with fail
  go_loopg [9, 10, 31] 3 (fun gn s9 s10 s31 wr => ∃ k : Nat, KW w wr rb s9 (stP M r pg k) ∧ s10 = .int .i64 (frP M r pg k : Nat) ∧ s31 = .int .i64 k ∧ k < 3 ∧ gn = 3 - k ∧ ∀ j, j < k → (atP M r pg j).v = true)
  case atStart => exact ⟨0, HW.out, rfl, rfl, by omega, rfl, fun j h => by omega⟩
  case round =>
    clear HW HS
    rename_i s9 s10 s31
    obtain ⟨k, hKW, rfl, rfl, hk, rfl, hv⟩ := hrel
    by_cases hlt : k < 3
    · have hk3 : (k : Int) < 3 := by omega
      have HF := Lib.hid (HN.out k hlt hv)
      have HV := Lib.hid hv
      obtain ⟨va, vc, rfl⟩ := owns_slice hKW.row
      have hlen := stP_len M r pg k
      rw [hlen] at hKW ⊢
      have HX := Lib.hid (pIndex · pg k hp hlt)
      have HPL : Hid (plc pg k < 16) := Lib.hid (Nat.mod_lt _ (by omega))
      obtain ⟨p, hpe⟩ : ∃ p, plc pg k = p := ⟨_, rfl⟩
      obtain ⟨f, hfe⟩ : ∃ f, frP M r pg k = f := ⟨_, rfl⟩
      have HST : Hid (stP M r pg (k + 1) = stP M r pg k ++ [(f, p)]) := Lib.hid (by rw [stP, hpe, hfe])
      have HA : Hid (atP M r pg k = M f p) := Lib.hid (by unfold atP; rw [hpe, hfe])
      rw [hpe] at HX HPL
      rw [hfe] at HF ⊢
      obtain ⟨va2, vc2, w2, happ, hKW2⟩ := hKW.push (f, p) (by rw [hlen]; omega)
      rw [hlen] at happ hKW2
      rw [← HST.out] at hKW2
      unfold vN at happ
      simp only at happ
      have HK2 := Lib.hid hKW2
      have HM2 := Lib.hid (HM.out.keep hKW2.kp (by simp) (by simp))
      clear hKW hKW2 hv hpe hfe hlen
      go_wp2_with fail
      refine (HX.out wr).mono ?_
      rintro _ wq ⟨rfl, rfl⟩
      go_wp2_with (at_builtin; refine wpList_append_eq rfl _ _ _ rfl rfl rfl (happ _) ?_)
      clear happ
      refine (pGet w2 m g n M HM2.out f p HF.out HPL.out).mono ?_
      rintro _ w4 ⟨rfl, hk4⟩
      have HK4 := Lib.hid (HK2.out.new hk4)
      clear hk4 HK2 HM2
      obtain ⟨e, he⟩ : ∃ e, M f p = e := ⟨_, rfl⟩
      rw [he] at HA ⊢
      obtain ⟨v, ww, t, fr⟩ := e
      have HFR : Hid (frP M r pg (k + 1) = fr) := Lib.hid (by
        show (atP M r pg k).f = fr
        rw [HA.out])
      unfold EN.val
      simp only
      have HK5 := Lib.hid (HK4.out.new ((Keep.refl _ _).alloc (.cells #[.bool v, .bool ww, .bool t, .int .i64 (fr : Int)] 38)))
      have HC5 := Lib.hid (al_new w4 (.cells #[.bool v, .bool ww, .bool t, .int .i64 (fr : Int)] 38) rfl)
      clear HK4 he
      go_upto_region 11 with fail
      generalize w4.alloc (.cells #[.bool v, .bool ww, .bool t, .int .i64 (fr : Int)] 38) = w5 at *
      generalize w4.heap.size = ci at *
      have r0 := cell_of_ob HC5.out 0
      have r1 := cell_of_ob HC5.out 1
      have r2 := cell_of_ob HC5.out 2
      have r3 := cell_of_ob HC5.out 3
      simp only [List.getElem?_toArray, List.getElem?_cons_zero, List.getElem?_cons_succ] at r0 r1 r2 r3
      have lc := ob_lt HC5.out
      have hth : w5.there rb 0 4 := there_arr HK5.out.orb
      cases v with
      | false =>
        have hsz : (Try.prog.info? 38).map (·.size) = some (eC eZ).size := size38
        go_wp2_with (first | ((with_reducible refine at_store 38 6 75 ?_); refine wpList_store_mid rfl 38 (.tmp 6) (.tmp 75) rfl rb 0 (eC eZ) rfl rfl hth hsz (eC_one _) ?_))
        try rw [Exit.noGoto_ret]
        refine bodyPost_ret (ret_row_tmp2 (P := Try.prog) Try.results13 (cs := eC eZ) (t := 38) (fr := (0, 0)) (g := rb) (store_arr HK5.out.orb rfl) rfl Try.underlying38 rfl (by rw [size38]; rfl)) rfl ?_
        refine ⟨HK5.out.kp.setCells (.inr (by have := HRB.out; omega)) _ _, _, .inl ⟨k, hlt, HV.out, by rw [HA.out], rfl, ?_⟩⟩
        exact HK5.out.rowSet _
      | true =>
        have HVV : Hid (∀ j, j < k + 1 → (atP M r pg j).v = true) := Lib.hid (fun j hj => by
          by_cases e : j = k
          · subst e; rw [HA.out]
          · exact HV.out j (by omega))
        have htt : t = decide (k < 2) := by
          have := HT.out k hlt (fun j hj => HVV.out j (by omega))
          rw [HA.out] at this
          exact this
        by_cases h2 : k < 2
        · have h2' : (k : Int) < 2 := by omega
          obtain rfl : t = true := by rw [htt]; simpa using h2
          clear htt
          go_wp2_with fail
          go_roundg (3 - (k + 1))
          case measure => omega
          case rel => exact ⟨k + 1, HK5.out, by rw [HFR.out], by go_num, by omega, rfl, HVV.out⟩
        · obtain rfl : k = 2 := by omega
          obtain rfl : t = false := by rw [htt]; decide
          have hsz : (Try.prog.info? 38).map (·.size) = some (eC ⟨true, ww, false, fr⟩).size := size38
          clear htt
          go_wp2_with (first | ((with_reducible refine at_store 38 6 70 ?_); refine wpList_store_mid rfl 38 (.tmp 6) (.tmp 70) rfl rb 0 (eC ⟨true, ww, false, fr⟩) rfl rfl hth hsz (eC_one _) ?_))
          try rw [Exit.noGoto_ret]
          refine bodyPost_ret (ret_row_tmp2 (P := Try.prog) Try.results13 (cs := eC ⟨true, ww, false, fr⟩) (t := 38) (fr := (0, 0)) (g := rb) (store_arr HK5.out.orb rfl) rfl Try.underlying38 rfl (by rw [size38]; rfl)) rfl ?_
          refine ⟨HK5.out.kp.setCells (.inr (by have := HRB.out; omega)) _ _, _, .inr ⟨HVV.out, by rw [HA.out]; rfl, ?_⟩⟩
          exact HK5.out.rowSet _
    · omega
end Go.Proofs.Ytehmjjfgefopdaa
