import Derived.Test.YtajlpicdkdeceaaIx
import Derived.Test.YtajlpicdkdeceaaIl
namespace Go.Proofs.Ytajlpicdkdeceaa
open Go.RowKit
set_option linter.unusedSimpArgs false
set_option linter.unusedVariables false
attribute [local go_sem] ob_alloc ob_drew ob_drewN ob_setCell ob_setBlock objSet_cells obMap_map obClock_map isMapI_map keyI_mk findI_nil findI_cons lookRes_some lookRes_none lookRes_some' lookRes_none' setBlock_alloc mapPut

theorem bytes_at {w : World} {l : List PB} {e : Ending} {w' : World} (h : BytesPost w l e w') : ∃ a n c k, e = .returned (.tuple #[.slice a n c, .int .i64 k]) ∧ RdI w' .u8 (.slice a n c) (if right l = true then enc l else []) ∧ k = (if right l = true then 0 else 1) ∧ Keep [] w w' := by
  obtain ⟨hk, h⟩ := h
  by_cases hr : right l = true
  · rw [if_pos hr] at h
    obtain ⟨v, rfl, h2⟩ := h
    obtain ⟨a, c, rfl, _, _⟩ := h2.1.len
    exact ⟨_, _, _, _, rfl, by rw [if_pos hr]; exact h2, by rw [if_pos hr], hk⟩
  · rw [if_neg hr] at h
    subst h
    exact ⟨_, _, _, _, rfl, by rw [if_neg hr]; exact RdI.nil _, by rw [if_neg hr], hk⟩
theorem read_at {w : World} {o : Option (List PB)} {e : Ending} {w' : World} (h : ReadPost w o e w') : ∃ a n c k, e = .returned (.tuple #[.slice a n c, .int .i64 k]) ∧ PRd w' (.slice a n c) (o.getD []) ∧ k = (if o.isSome then 0 else 11) ∧ Keep [] w w' := by
  cases o with
  | none =>
    obtain ⟨rfl, hk⟩ := h
    exact ⟨_, _, _, _, rfl, PRd.nil _, rfl, hk⟩
  | some l =>
    obtain ⟨v, rfl, h2, hk⟩ := h
    obtain ⟨a, c, rfl, _, _⟩ := h2.len
    exact ⟨_, _, _, _, rfl, h2, rfl, hk⟩
set_option maxRecDepth 100000 in
set_option maxHeartbeats 4000000 in
theorem reads14 (w : World) (v0 v1 : Value) (l : List PB) (bs : List Int) (h : PRd w v0 l) (hb : RdI w .u8 v1 bs) : Calls Try.prog 3 #[v0, v1] w fun e w' => e = .returned (.bool true) ∧ Keep [] w w' := by
  have HP := Lib.hid h
  have HB := Lib.hid hb
  obtain ⟨a, cap, rfl, hc1, hc2⟩ := h.len
  obtain ⟨a2, cap2, hve, hd1, hd2⟩ := hb.1.len
  rw [List.length_map] at hve hd1
  subst hve
  unfold maxLen at hc2 hd2
  clear h hb
  obtain ⟨n, hn⟩ : ∃ n, l.length = n := ⟨_, rfl⟩
  obtain ⟨m, hm⟩ : ∃ m, bs.length = m := ⟨_, rfl⟩
  rw [hn] at hc1 HP
  rw [hm] at hd1 HB
  rw [hn, hm]
  go_enter Try.func3, Try.ntmps3
  go_wp2_with fail
  refine (pAwake _).mono ?_
  rintro _ w1 ⟨rfl, hk1⟩
  have HK1 := Lib.hid hk1
  clear hk1
  go_wp2_with fail
  refine (pLight _ _ _ (HP.out.keep HK1.out)).mono ?_
  rintro _ w2 ⟨ok, rfl, hok, hk2⟩
  have HK2 := Lib.hid (HK1.out.trans hk2)
  clear hk2 HK1
  have HOK := Lib.hid hok
  clear hok
  cases ok with
  | false =>
    go_wp2_with fail
    go_ret
    exact ⟨by trivial, HK2.out⟩
  | true =>
    have hn30 := HOK.out rfl
    rw [hn] at hn30
    by_cases hm3 : 3000 < m
    · go_wp2_with fail
      go_ret
      exact ⟨by trivial, HK2.out⟩
    · have hm4 : m ≤ 3000 := by omega
      go_wp2_with fail
      refine (pBytes _ _ _ (HP.out.keep HK2.out)).mono ?_
      intro e w3 hb3
      obtain ⟨xa, xn, xc, xk, rfl, hx, hxk, hk3⟩ := bytes_at hb3
      have HK3 := Lib.hid (HK2.out.trans hk3)
      have HX := Lib.hid hx
      have HXK := Lib.hid hxk
      clear hb3 hk3 hx HK2 hxk
      go_wp2_with fail
      refine (pTo _ _ _ (HP.out.keep HK3.out) (by omega)).mono ?_
      rintro e w4 ⟨tv, rfl, hp4, hk4⟩
      obtain ⟨st, sct, hse, _, _⟩ := hp4.len
      rw [hn] at hse
      subst hse
      have HK4 := Lib.hid (And.intro (HK3.out.trans hk4) hk4)
      have HP4 := Lib.hid hp4
      clear hk4 hp4 HK3
      go_wp2_with fail
      refine (rBytes _ _ _ HP4.out).mono ?_
      intro e w5 hb5
      obtain ⟨ya, yn, yc, yk, rfl, hy, hyk, hk5⟩ := bytes_at hb5
      rw [← HXK.out] at hyk
      subst hyk
      have HK5 := Lib.hid (HK4.out.1.trans hk5)
      have HY := Lib.hid (And.intro (HX.out.keep (HK4.out.2.trans hk5) (by simp)) hy)
      clear hb5 hk5 hy HK4 HP4 HX
      go_wp2_with fail
      refine (pRead _ _ _ (HB.out.keep HK5.out (by simp)) HB.out.okB).mono ?_
      intro e w6 hr6
      obtain ⟨ra, rn, rc, rk, rfl, hr, hrk, hk6⟩ := read_at hr6
      have HK6 := Lib.hid (HK5.out.trans hk6)
      have HY6 := Lib.hid (And.intro (HY.out.1.keep hk6 (by simp)) (HY.out.2.keep hk6 (by simp)))
      have HA := Lib.hid hr
      have HRK := Lib.hid hrk
      clear hr6 hk6 hr HK5 HY hrk
      go_wp2_with fail
      refine (rRead _ _ _ (HB.out.keep HK6.out (by simp)) HB.out.okB (by rw [hm]; exact hm4)).mono ?_
      intro e w7 hr7
      obtain ⟨ca, cn, cc, ck, rfl, hc, hck, hk7⟩ := read_at hr7
      rw [← HRK.out] at hck
      subst hck
      have HK7 := Lib.hid (HK6.out.trans hk7)
      have HY7 := Lib.hid (And.intro (HY6.out.1.keep hk7 (by simp)) (HY6.out.2.keep hk7 (by simp)))
      have HA7 := Lib.hid (And.intro (HA.out.keep hk7) hc)
      clear hr7 hk7 hc HK6 HY6 HA
      have hlen : ((dec bs).getD []).length ≤ 30 := by
        cases hd : dec bs with
        | none => simp
        | some l2 =>
          obtain ⟨_, d2, _⟩ := dec_some hd HB.out.okB
          have := (right_ok d2).2.2
          simp; omega
      go_wp2_with fail
      refine (pTo _ _ _ HA7.out.1 hlen).mono ?_
      rintro e w8 ⟨tv, rfl, hp8, hk8⟩
      obtain ⟨st8, sct8, hse, _, _⟩ := hp8.len
      obtain ⟨n8, hn8⟩ : ∃ n8, ((dec bs).getD []).length = n8 := ⟨_, rfl⟩
      rw [hn8] at hse
      subst hse
      have HK8 := Lib.hid (HK7.out.trans hk8)
      have HY8 := Lib.hid (And.intro (HY7.out.1.keep hk8 (by simp)) (HY7.out.2.keep hk8 (by simp)))
      have HA8 := Lib.hid (And.intro hp8 (HA7.out.2.keep hk8))
      clear hk8 hp8 HK7 HY7 HA7 hlen hn8
      go_wp2_with fail
      refine (pSame _ _ _ _ _ HA8.out.1 HA8.out.2).mono ?_
      rintro e w9 ⟨rfl, hk9⟩
      have e1 : decide ((dec bs).getD [] = (dec bs).getD []) = true := by simp
      rw [e1]
      have HK9 := Lib.hid (HK8.out.trans hk9)
      have kc1 := conv_str (HY8.out.1.keep hk9 (by simp))
      have kc2 := conv_str (HY8.out.2.keep hk9 (by simp))
      clear hk9 HK8 HY8 HA8 e1
      generalize strOfNums (if right l = true then enc l else []) = s1 at *
      go_wp2_with fail
      refine (bRight _ _ _ (HP.out.keep HK9.out)).mono ?_
      rintro e w10 ⟨rfl, hk10⟩
      have HK10 := Lib.hid (HK9.out.trans hk10)
      clear hk10 kc1 kc2 HK9
      go_wp2_with fail
      refine (pTo _ _ _ (HP.out.keep HK10.out) (by omega)).mono ?_
      rintro e w11 ⟨tv, rfl, hp11, hk11⟩
      obtain ⟨st11, sct11, hse, _, _⟩ := hp11.len
      rw [hn] at hse
      subst hse
      have HK11 := Lib.hid (HK10.out.trans hk11)
      have HP11 := Lib.hid hp11
      clear hk11 hp11 HK10
      go_wp2_with fail
      refine (rRight _ _ _ HP11.out).mono ?_
      rintro e w12 ⟨rfl, hk12⟩
      have HK12 := Lib.hid (HK11.out.trans hk12)
      clear hk12 HK11 HP11
      go_wp2_with fail
      go_ret
      exact ⟨ret_b (by simp), HK12.out⟩
end Go.Proofs.Ytajlpicdkdeceaa
