import Derived.Test.YtajlpicdkdeceaaIm
import Derived.Test.YtajlpicdkdeceaaIj
import Derived.Test.YtajlpicdkdeceaaIk
import Derived.Laws.BytesArg
namespace Go.Proofs.Ytajlpicdkdeceaa
open Go.RowKit
set_option linter.unusedSimpArgs false
set_option linter.unusedVariables false
attribute [local go_sem] ob_alloc ob_drew ob_drewN ob_setCell ob_setBlock objSet_cells obMap_map obClock_map isMapI_map keyI_mk findI_nil findI_cons lookRes_some lookRes_none lookRes_some' lookRes_none' setBlock_alloc mapPut

theorem u8_bd {n : Int} (h : (Lit.int .u8 n).wf = true) : okB n := by
  simp [Lit.wf, IntKind.min, IntKind.max, IntKind.bits, IntKind.signed] at h
  unfold okB
  omega
theorem RdI.okB {w : World} {v : Value} {bs : List Int} (h : RdI w .u8 v bs) : ∀ c ∈ bs, okB c := fun c hc => u8_bd (h.2 c hc)
theorem RdI.nil (w : World) : RdI w .u8 (.slice none 0 0) [] := ⟨Rd.nil _, by simp⟩
theorem PRd.words {w : World} {v : Value} {l : List PB} (h : PRd w v l) : wordsOk l := by
  obtain ⟨rs, h1, h2, h3⟩ := h
  intro p hp x hx
  obtain ⟨i, hi⟩ := List.getElem?_of_mem hp
  have hlt := (List.getElem?_eq_some_iff.1 hi).1
  obtain ⟨_, _, e⟩ := h3 i (rs[i]'(by omega)) p (List.getElem?_eq_getElem _) hi
  exact u64_bd (e.2 x hx)
/-- the string of bytes -/
theorem conv_str {w : World} {v : Value} {bs : List Int} (h : RdI w .u8 v bs) : (convert 23 9 v).run Try.prog w = .ok (.string (strOfNums bs)) w := by
  rcases Nat.eq_zero_or_pos bs.length with h0 | h0
  · have := List.eq_nil_of_length_eq_zero h0
    subst this
    rcases h.1 with ⟨rfl, _⟩ | ⟨a, cap, rfl, _, _, _⟩
    · exact run_convert_bytes_nil w 23 5 Try.underlying23 Try.underlying5 0 0 9 Try.underlying9
    · obtain ⟨b, off, spot⟩ := a
      rw [run_convert_bytes_string w 23 9 5 _ _ cap Try.underlying23 Try.underlying5 Try.underlying9, run_bytesToString w _ _ cap [] (by simpa using run_loadCells_list (P := Try.prog) w ⟨b, off, spot⟩ [] (by simp))]
      rfl
  · obtain ⟨b, off, cap, rfl, h1, h2, h3⟩ := h.1.pos (by rw [List.length_map]; exact h0)
    rw [List.length_map]
    refine run_convert_bytes_arg w 23 5 Try.underlying23 Try.underlying5 b off bs.length cap bs rfl (fun i hi => ?_) 9 Try.underlying9
    have := h3 i _ (by rw [List.getElem?_map, List.getElem?_eq_getElem hi]; rfl)
    rw [this, List.getD, List.getElem?_eq_getElem hi]
    rfl
set_option maxRecDepth 100000 in
set_option maxHeartbeats 4000000 in
theorem back14 (w : World) (v0 v1 : Value) (l : List PB) (bs : List Int) (h : PRd w v0 l) (hb : RdI w .u8 v1 bs) : Calls Try.prog 4 #[v0, v1] w fun e w' => e = .returned (.bool true) ∧ Keep [] w w' := by
  have HP := Lib.hid h
  have HB := Lib.hid hb
  obtain ⟨a, cap, rfl, hc1, hc2⟩ := h.len
  obtain ⟨ab, capb, hve, hc3, hc4⟩ := hb.1.len
  rw [List.length_map] at hve hc3
  subst hve
  unfold maxLen at hc2 hc4
  clear h hb
  obtain ⟨n, hn⟩ : ∃ n, l.length = n := ⟨_, rfl⟩
  obtain ⟨m, hm⟩ : ∃ m, bs.length = m := ⟨_, rfl⟩
  rw [hn] at hc1 HP ⊢
  rw [hm] at hc3 HB ⊢
  go_enter Try.func4, Try.ntmps4
  go_wp2_with fail
  refine (pAwake _).mono ?_
  rintro _ w1 ⟨rfl, hk1⟩
  have HK1 := Lib.hid hk1
  clear hk1
  go_wp2_with fail
  refine (pLight _ _ _ (HP.out.keep HK1.out)).mono ?_
  rintro _ w2 ⟨ok, rfl, hok, hk2⟩
  have HK2 := Lib.hid (HK1.out.trans hk2)
  clear hk2 HK1
  have HOK := Lib.hid hok
  clear hok
  cases ok with
  | false =>
    go_wp2_with fail
    go_ret
    exact ⟨by trivial, HK2.out⟩
  | true =>
    have hn30 := HOK.out rfl
    rw [hn] at hn30
    by_cases hm3 : 3000 < m
    · go_wp2_with fail
      go_ret
      exact ⟨by trivial, HK2.out⟩
    · go_wp2_with fail
      refine (pBytes _ _ _ (HP.out.keep HK2.out)).mono ?_
      rintro e w3 ⟨hk3, hb⟩
      have HK3 := Lib.hid (HK2.out.trans hk3)
      clear hk3 HK2
      by_cases hr : right l = true
      · rw [if_pos hr] at hb
        obtain ⟨xv, rfl, hx⟩ := hb
        obtain ⟨sx, scx, hxe, _, _⟩ := hx.1.len
        rw [List.length_map] at hxe
        subst hxe
        obtain ⟨N, hN⟩ : ∃ N, (enc l).length = N := ⟨_, rfl⟩
        rw [hN] at hx ⊢
        have HX := Lib.hid (And.intro hr hx)
        clear hN
        clear hx hr
        go_wp2_with fail
        refine (pRead _ _ _ HX.out.2 HX.out.2.okB).mono ?_
        rintro e w4 hr4
        rw [dec_enc l HX.out.1 HP.out.words] at hr4
        obtain ⟨av, rfl, hp4, hk4⟩ := hr4
        obtain ⟨sa, sca, hse, _, _⟩ := hp4.len
        rw [hn] at hse
        subst hse
        have HK4 := Lib.hid (HK3.out.trans hk4)
        have HP4 := Lib.hid hp4
        clear hk4 hp4 HK3
        go_wp2_with fail
        refine (pTo _ _ _ HP4.out (by omega)).mono ?_
        rintro e w5 ⟨tv, rfl, hp5, hk5⟩
        obtain ⟨st, sct, hse, _, _⟩ := hp5.len
        rw [hn] at hse
        subst hse
        have HK5 := Lib.hid (HK4.out.trans hk5)
        have HP5 := Lib.hid hp5
        clear hk5 hp5 HK4
        go_wp2_with fail
        refine (pTo _ _ _ (HP.out.keep HK5.out) (by omega)).mono ?_
        rintro e w6 ⟨tv, rfl, hp6, hk6⟩
        obtain ⟨su, scu, hse, _, _⟩ := hp6.len
        rw [hn] at hse
        subst hse
        have HK6 := Lib.hid (HK5.out.trans hk6)
        have HP6 := Lib.hid (And.intro (HP5.out.keep hk6) hp6)
        clear hk6 hp6 HK5
        go_wp2_with fail
        refine (pSame _ _ _ _ _ HP6.out.1 HP6.out.2).mono ?_
        rintro e w7 ⟨rfl, hk7⟩
        have e1 : decide (l = l) = true := by simp
        rw [e1]
        have HK7 := Lib.hid (HK6.out.trans hk7)
        clear hk7 HK6 e1
        go_wp2_with fail
        refine (bRight _ _ _ (HP.out.keep HK7.out)).mono ?_
        rintro _ w8 ⟨rfl, hk8⟩
        rw [HX.out.1]
        have HK8 := Lib.hid (HK7.out.trans hk8)
        clear hk8 HK7
        go_wp2_with fail
        refine (pRead _ _ _ (HB.out.keep HK8.out (by simp)) HB.out.okB).mono ?_
        rintro e w9 hr9
        cases hd : dec bs with
        | none =>
          rw [hd] at hr9
          obtain ⟨rfl, hk9⟩ := hr9
          have HK9 := Lib.hid (HK8.out.trans hk9)
          clear hk9
          go_wp2_with fail
          refine (pBytes _ _ _ (PRd.nil _)).mono ?_
          rintro e w10 ⟨hk10, hb10⟩
          have e0 : right [] = false := rfl
          rw [e0] at hb10
          simp only [Bool.false_eq_true, if_false] at hb10
          subst hb10
          have HK10 := Lib.hid (HK9.out.trans hk10)
          clear hk10 HK9
          go_wp2_with fail
          go_ret
          exact ⟨by trivial, HK10.out⟩
        | some l2 =>
          rw [hd] at hr9
          obtain ⟨lv, rfl, hp9, hk9⟩ := hr9
          obtain ⟨d1, d2, d3⟩ := dec_some hd HB.out.okB
          have HK9 := Lib.hid (HK8.out.trans hk9)
          have HP9 := Lib.hid hp9
          clear hk9 hp9
          obtain ⟨sl, scl, hse, _, _⟩ := HP9.out.len
          obtain ⟨n2, hn2⟩ : ∃ n2, l2.length = n2 := ⟨_, rfl⟩
          rw [hn2] at hse
          subst hse
          clear hn2
          go_wp2_with fail
          refine (pBytes _ _ _ HP9.out).mono ?_
          rintro e w10 ⟨hk10, hb10⟩
          rw [d2] at hb10
          simp only [if_true] at hb10
          obtain ⟨bv, rfl, hb10⟩ := hb10
          have HK10 := Lib.hid (HK9.out.trans hk10)
          rw [d1] at hb10
          obtain ⟨sb, scb, hse, _, _⟩ := hb10.1.len
          rw [List.length_map, hm] at hse
          subst hse
          have kc1 := conv_str hb10
          have kc2 := conv_str (HB.out.keep HK10.out (by simp))
          clear hk10 HK9 hb10
          go_wp2_with fail
          go_ret
          exact ⟨by trivial, HK10.out⟩
      · rw [if_neg hr] at hb
        subst hb
        go_wp2_with fail
        refine (pRead _ _ _ (RdI.nil _) (by simp)).mono ?_
        rintro e w4 hr4
        have e0 : dec [] = none := rfl
        rw [e0] at hr4
        obtain ⟨rfl, hk4⟩ := hr4
        have HK4 := Lib.hid (HK3.out.trans hk4)
        clear hk4 HK3
        go_wp2_with fail
        refine (pTo _ _ _ (PRd.nil _) (by simp)).mono ?_
        rintro e w5 ⟨tv, rfl, hp5, hk5⟩
        obtain ⟨st, sct, hse, _, _⟩ := hp5.len
        rw [List.length_nil] at hse
        subst hse
        have HK5 := Lib.hid (HK4.out.trans hk5)
        have HP5 := Lib.hid hp5
        clear hk5 hp5 HK4
        go_wp2_with fail
        refine (pTo _ _ _ (HP.out.keep HK5.out) (by omega)).mono ?_
        rintro e w6 ⟨tv, rfl, hp6, hk6⟩
        obtain ⟨su, scu, hse, _, _⟩ := hp6.len
        rw [hn] at hse
        subst hse
        have HK6 := Lib.hid (HK5.out.trans hk6)
        have HP6 := Lib.hid (And.intro (HP5.out.keep hk6) hp6)
        clear hk6 hp6 HK5
        go_wp2_with fail
        refine (pSame _ _ _ _ _ HP6.out.1 HP6.out.2).mono ?_
        rintro e w7 ⟨rfl, hk7⟩
        have HK7 := Lib.hid (HK6.out.trans hk7)
        clear hk7 HK6
        generalize decide ([] = l) = dl
        go_wp2_with fail
        refine (pRead _ _ _ (HB.out.keep HK7.out (by simp)) HB.out.okB).mono ?_
        rintro e w9 hr9
        cases hd : dec bs with
        | none =>
          rw [hd] at hr9
          obtain ⟨rfl, hk9⟩ := hr9
          have HK9 := Lib.hid (HK7.out.trans hk9)
          clear hk9
          go_wp2_with fail
          refine (pBytes _ _ _ (PRd.nil _)).mono ?_
          rintro e w10 ⟨hk10, hb10⟩
          have e0 : right [] = false := rfl
          rw [e0] at hb10
          simp only [Bool.false_eq_true, if_false] at hb10
          subst hb10
          have HK10 := Lib.hid (HK9.out.trans hk10)
          clear hk10 HK9
          go_wp2_with fail
          go_ret
          exact ⟨by trivial, HK10.out⟩
        | some l2 =>
          rw [hd] at hr9
          obtain ⟨lv, rfl, hp9, hk9⟩ := hr9
          obtain ⟨d1, d2, d3⟩ := dec_some hd HB.out.okB
          have HK9 := Lib.hid (HK7.out.trans hk9)
          have HP9 := Lib.hid hp9
          clear hk9 hp9
          obtain ⟨sl, scl, hse, _, _⟩ := HP9.out.len
          obtain ⟨n2, hn2⟩ : ∃ n2, l2.length = n2 := ⟨_, rfl⟩
          rw [hn2] at hse
          subst hse
          clear hn2
          go_wp2_with fail
          refine (pBytes _ _ _ HP9.out).mono ?_
          rintro e w10 ⟨hk10, hb10⟩
          rw [d2] at hb10
          simp only [if_true] at hb10
          obtain ⟨bv, rfl, hb10⟩ := hb10
          have HK10 := Lib.hid (HK9.out.trans hk10)
          rw [d1] at hb10
          obtain ⟨sb, scb, hse, _, _⟩ := hb10.1.len
          rw [List.length_map, hm] at hse
          subst hse
          have kc1 := conv_str hb10
          have kc2 := conv_str (HB.out.keep HK10.out (by simp))
          clear hk10 HK9 hb10
          go_wp2_with fail
          go_ret
          exact ⟨by trivial, HK10.out⟩
end Go.Proofs.Ytajlpicdkdeceaa
