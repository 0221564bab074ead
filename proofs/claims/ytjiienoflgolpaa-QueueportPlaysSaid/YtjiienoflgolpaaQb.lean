import Derived.Test.YtjiienoflgolpaaQa
import Derived.Deep.LoopGhost
import Derived.Deep.CutRange
namespace Go.Proofs.Ytjiienoflgolpaa
open Go.RowKit
set_option linter.unusedSimpArgs false
set_option linter.unusedVariables false
open Go.Conc
attribute [local go_sem] ob_alloc ob_drew ob_drewN ob_setCell ob_setBlock objSet_cells obMap_map obClock_map isMapI_map keyI_mk findI_nil findI_cons lookRes_some lookRes_none lookRes_some' lookRes_none' setBlock_alloc mapPut

/-! ### Send and Take: a select of one case with a default, alone -/
set_option maxRecDepth 100000 in
set_option maxHeartbeats 800000 in
theorem qTake_no (w : World) (p c many : Nat) (words : Int) (h : PortB w p c many words []) :
    Calls Try.prog 18 #[.pointer (some ⟨p, 0, none⟩)] w fun e w' => e = .returned (.tuple #[.slice none 0 0, .int .i64 2]) ∧ w = w' := by
  obtain ⟨s, r, hc⟩ := h.hc
  have c1 := cell_of_ob h.hp 1
  simp only [List.getElem?_toArray, List.getElem?_cons_zero, List.getElem?_cons_succ] at c1
  have HC : Hid (w.heap[c]? = some (.chan many #[] false s r false)) := Lib.hid hc
  clear h hc
  refine calls_of_loneTo fun cs => ?_
  have e : Frame.enter Try.prog 18 #[.pointer (some ⟨p, 0, none⟩)] .normal = (base 18).at ⟨#[.pointer (some ⟨p, 0, none⟩), undef, undef, undef, undef, undef, undef, undef, undef, undef, undef, undef, undef, undef], []⟩ [.code (Try.f18.body.getD .skip)] := by
    simp [Frame.enter, Frame.at, Try.func18, base, Try.f18]
  rw [e]
  clear e
  simp only [Try.f18, Option.getD_some]
  refine loneTo_seq (loneTo_wp ?_)
  go_wp2
  refine then_normal (loneTo_seq (loneTo_wp ?_))
  go_wp2
  refine then_normal (loneTo_seq ?_)
  refine LoneTo.goes (n := 1) ?_
  s_reg
  s_stop
  refine LoneTo.step (step_lone_select_default (c := c) (z := .slice none 0 0) (cap := many) (s := s) (r := r) (tm := false) (stepG_comm (cases := #[rcase c (.slice none 0 0)]) (blocking := false) (shape := .select) (w' := w) rfl rfl (by decide) (by simp [go_sem, execOp, rcase, Act.eval])) HC.out) ?_
  rw [Frame.finish_at]
  walk_nrm
  refine LoneTo.goes (n := 3) ?_
  s_op
  s_op
  s_c stepG_region_end
  s_stop
  refine loneTo_wp ?_
  go_wp2
  refine out_ret Try.func18 rfl (by simp [results, Try.results18]; rfl) ?_
  exact ⟨rfl, rfl⟩

set_option maxRecDepth 100000 in
set_option maxHeartbeats 800000 in
theorem qTake_yes (w : World) (p c many : Nat) (words : Int) (v : Value) (rest : List Value) (h : PortB w p c many words (v :: rest)) :
    Calls Try.prog 18 #[.pointer (some ⟨p, 0, none⟩)] w fun e w' => e = .returned (.tuple #[v, .int .i64 0]) ∧ PortB w' p c many words rest ∧ Keep [c] w w' := by
  obtain ⟨s, r, hc⟩ := h.hc
  have c1 := cell_of_ob h.hp 1
  simp only [List.getElem?_toArray, List.getElem?_cons_zero, List.getElem?_cons_succ] at c1
  have HP := Lib.hid (And.intro (h.set rest (by have := h.le; simp at this; omega) s (r + 1)) ((Keep.refl [c] w).setChan (c := c) (.inl (by simp)) many rest.toArray false s (r + 1) false))
  obtain ⟨B, hB⟩ : ∃ B, (v :: rest).toArray = B := ⟨_, rfl⟩
  have hB0 : B.getD 0 undef = v := by rw [← hB]; rfl
  have hB1 : B.extract 1 B.size = rest.toArray := by rw [← hB]; simp
  have hB2 : 0 < B.size := by rw [← hB]; simp
  rw [hB] at hc
  have HC : Hid (w.heap[c]? = some (.chan many B false s r false)) := Lib.hid hc
  clear h hc hB
  refine calls_of_loneTo fun cs => ?_
  have e : Frame.enter Try.prog 18 #[.pointer (some ⟨p, 0, none⟩)] .normal = (base 18).at ⟨#[.pointer (some ⟨p, 0, none⟩), undef, undef, undef, undef, undef, undef, undef, undef, undef, undef, undef, undef, undef], []⟩ [.code (Try.f18.body.getD .skip)] := by
    simp [Frame.enter, Frame.at, Try.func18, base, Try.f18]
  rw [e]
  clear e
  simp only [Try.f18, Option.getD_some]
  refine loneTo_seq (loneTo_wp ?_)
  go_wp2
  refine then_normal (loneTo_seq (loneTo_wp ?_))
  go_wp2
  refine then_normal (loneTo_seq ?_)
  refine LoneTo.goes (n := 1) ?_
  s_reg
  s_stop
  refine LoneTo.step (step_lone_select_recv_buf (c := c) (z := .slice none 0 0) (cap := many) (buf := B) (closed := false) (s := s) (r := r) (tm := false) (stepG_comm (cases := #[rcase c (.slice none 0 0)]) (blocking := false) (shape := .select) (w' := w) rfl rfl (by decide) (by simp [go_sem, execOp, rcase, Act.eval])) HC.out hB2) ?_
  rw [Frame.finish_at, hB0, hB1]
  generalize w.setChan c many rest.toArray false s (r + 1) false = w2 at *
  clear hB0 hB1 hB2 HC c1
  walk_nrm
  refine LoneTo.goes (n := 3) ?_
  s_op
  s_op
  s_c stepG_region_end
  s_stop
  refine loneTo_wp ?_
  go_wp2
  refine out_ret Try.func18 rfl (by simp [results, Try.results18]; rfl) ?_
  exact ⟨rfl, HP.out.1, HP.out.2⟩

/-! ### Send -/
set_option maxRecDepth 100000 in
set_option maxHeartbeats 800000 in
theorem qSend_bad (w : World) (p c many : Nat) (words : Int) (buf : List Value) (h : PortB w p c many words buf) (a : Option Addr) (n cap : Nat) (hn : n < 1 ∨ words < (n : Int)) (hm : n ≤ maxLen) :
    Calls Try.prog 16 #[.pointer (some ⟨p, 0, none⟩), .slice a n cap] w fun e w' => e = .returned (.int .i64 1) ∧ w = w' := by
  have c0 := cell_of_ob h.hp 0
  simp only [List.getElem?_toArray, List.getElem?_cons_zero] at c0
  unfold maxLen at hm
  have hn' : n < 1 ∨ (1 ≤ n ∧ words < (n : Int)) := by omega
  clear h hn
  refine calls_of_loneTo fun cs => ?_
  have e : Frame.enter Try.prog 16 #[.pointer (some ⟨p, 0, none⟩), .slice a n cap] .normal = (base 16).at ⟨#[.pointer (some ⟨p, 0, none⟩), .slice a n cap, undef, undef, undef, undef, undef, undef, undef, undef, undef, undef, undef, undef, undef, undef, undef, undef, undef, undef, undef, undef, undef, undef, undef, undef], []⟩ [.code (Try.f16.body.getD .skip)] := by
    simp [Frame.enter, Frame.at, Try.func16, base, Try.f16]
  rw [e]
  clear e
  simp only [Try.f16, Option.getD_some]
  refine loneTo_seq (loneTo_wp ?_)
  go_wp2
  refine then_normal (loneTo_seq (loneTo_wp ?_))
  rcases hn' with h1 | ⟨h1, h2⟩
  all_goals
    go_wp2
    refine out_ret Try.func16 rfl (by simp [results, Try.results16]; rfl) ?_
    exact ⟨rfl, rfl⟩
set_option maxRecDepth 100000 in
set_option maxHeartbeats 800000 in
theorem qSend_ok (w : World) (p c many : Nat) (words : Int) (buf : List Value) (h : PortB w p c many words buf) (a : Option Addr) (n cap : Nat) (xs : List Int) (hx : RdU w (.slice a n cap) xs) (h1 : 1 ≤ n) (h2 : (n : Int) ≤ words) (hm : n ≤ 1000000) (hroom : buf.length < many) :
    Calls Try.prog 16 #[.pointer (some ⟨p, 0, none⟩), .slice a n cap] w fun e w' => e = .returned (.int .i64 0) ∧ ∃ v', PortB w' p c many words (buf ++ [v']) ∧ w'.ownsRow w.heap.size 44 1 v' n (u64s xs) ∧ Keep [c] w w' := by
  have c0 := cell_of_ob h.hp 0
  have c1 := cell_of_ob h.hp 1
  simp only [List.getElem?_toArray, List.getElem?_cons_zero, List.getElem?_cons_succ] at c0 c1
  have hnx : xs.length = n := by
    obtain ⟨a', cap', e, _⟩ := Rd.len hx
    rw [u64s_length] at e
    cases e; rfl
  have hcl := qClone w (.slice a n cap) xs hx (by omega)
  have HL := Lib.hid h.lt
  have HP := Lib.hid h
  clear h hx
  refine calls_of_loneTo fun cs => ?_
  have e : Frame.enter Try.prog 16 #[.pointer (some ⟨p, 0, none⟩), .slice a n cap] .normal = (base 16).at ⟨#[.pointer (some ⟨p, 0, none⟩), .slice a n cap, undef, undef, undef, undef, undef, undef, undef, undef, undef, undef, undef, undef, undef, undef, undef, undef, undef, undef, undef, undef, undef, undef, undef, undef], []⟩ [.code (Try.f16.body.getD .skip)] := by
    simp [Frame.enter, Frame.at, Try.func16, base, Try.f16]
  rw [e]
  clear e
  simp only [Try.f16, Option.getD_some]
  have hn1 : ((n : Int) < 1) = False := eq_false (by omega)
  have hn2 : (words < (n : Int)) = False := eq_false (by omega)
  have HN := Lib.hid hnx
  clear hnx
  refine loneTo_seq (loneTo_wp ?_)
  go_wp2
  refine then_normal (loneTo_seq (loneTo_wp ?_))
  go_wp2
  refine then_normal (loneTo_seq (loneTo_seq (loneTo_wp ?_)))
  go_wp2
  refine then_normal (loneTo_wp ?_)
  go_wp2_with fail
  refine hcl.mono ?_
  rintro _ w2 ⟨v', rfl, hv, hk⟩
  have hP2 := HP.out.keep hk (by simp) (by simp)
  obtain ⟨s, r, hc⟩ := hP2.hc
  have HR := Lib.hid (And.intro (hP2.set (buf ++ [v']) (by simp; omega) (s + 1) r) (And.intro hv ((hk.mono (T := [c]) (by simp)).setChan (c := c) (.inl (by simp)) many (buf ++ [v']).toArray false (s + 1) r false)))
  have HC : Hid (w2.heap[c]? = some (.chan many buf.toArray false s r false)) := Lib.hid hc
  clear hcl hv hk hP2 hc c0 c1 hn1 hn2
  go_wp2_with fail
  refine then_normal (loneTo_seq ?_)
  refine LoneTo.goes (n := 1) ?_
  s_reg
  s_stop
  refine LoneTo.step (step_lone_select_send_room (c := c) (v := v') (z' := .slice none 0 0) (cap := many) (buf := buf.toArray) (s := s) (r := r) (tm := false) (stepG_comm (cases := #[scase c v' (.slice none 0 0)]) (blocking := false) (shape := .select) (w' := w2) rfl rfl (by decide) (by simp [go_sem, execOp, scase, Act.eval])) HC.out (by simpa using hroom)) ?_
  rw [Frame.finish_at, show buf.toArray.push v' = (buf ++ [v']).toArray by simp]
  have hrd := owns_keep HR.out.2.1 ((Keep.refl [c] w2).setChan (c := c) (.inl (by simp)) many (buf ++ [v']).toArray false (s + 1) r false) (fun b hb => by have h1 := ownBlock_ge HR.out.2.1 hb; have := HL.out.2; simp; omega)
  rw [HN.out] at hrd
  have HRd := Lib.hid hrd
  clear hrd
  generalize w2.setChan c many (buf ++ [v']).toArray false (s + 1) r false = w3 at *
  clear HC
  walk_nrm
  refine LoneTo.goes (n := 3) ?_
  s_op
  s_op
  s_c stepG_region_end
  s_stop
  refine loneTo_wp ?_
  go_wp2
  refine out_ret Try.func16 rfl (by simp [results, Try.results16]; rfl) ?_
  exact ⟨rfl, v', HR.out.1, HRd.out, HR.out.2.2⟩
set_option maxRecDepth 100000 in
set_option maxHeartbeats 800000 in
theorem qSend_full (w : World) (p c many : Nat) (words : Int) (buf : List Value) (h : PortB w p c many words buf) (a : Option Addr) (n cap : Nat) (xs : List Int) (hx : RdU w (.slice a n cap) xs) (h1 : 1 ≤ n) (h2 : (n : Int) ≤ words) (hm : n ≤ 1000000) (hroom : buf.length = many) :
    Calls Try.prog 16 #[.pointer (some ⟨p, 0, none⟩), .slice a n cap] w fun e w' => e = .returned (.int .i64 3) ∧ PortB w' p c many words buf ∧ Keep [] w w' := by
  have c0 := cell_of_ob h.hp 0
  have c1 := cell_of_ob h.hp 1
  simp only [List.getElem?_toArray, List.getElem?_cons_zero, List.getElem?_cons_succ] at c0 c1
  have hnx : xs.length = n := by
    obtain ⟨a', cap', e, _⟩ := Rd.len hx
    rw [u64s_length] at e
    cases e; rfl
  have hcl := qClone w (.slice a n cap) xs hx (by omega)
  have HP := Lib.hid h
  clear h hx
  refine calls_of_loneTo fun cs => ?_
  have e : Frame.enter Try.prog 16 #[.pointer (some ⟨p, 0, none⟩), .slice a n cap] .normal = (base 16).at ⟨#[.pointer (some ⟨p, 0, none⟩), .slice a n cap, undef, undef, undef, undef, undef, undef, undef, undef, undef, undef, undef, undef, undef, undef, undef, undef, undef, undef, undef, undef, undef, undef, undef, undef], []⟩ [.code (Try.f16.body.getD .skip)] := by
    simp [Frame.enter, Frame.at, Try.func16, base, Try.f16]
  rw [e]
  clear e
  simp only [Try.f16, Option.getD_some]
  have hn1 : ((n : Int) < 1) = False := eq_false (by omega)
  have hn2 : (words < (n : Int)) = False := eq_false (by omega)
  have HRm : Hid (buf.length = many) := Lib.hid hroom
  clear hnx hroom
  refine loneTo_seq (loneTo_wp ?_)
  go_wp2
  refine then_normal (loneTo_seq (loneTo_wp ?_))
  go_wp2
  refine then_normal (loneTo_seq (loneTo_seq (loneTo_wp ?_)))
  go_wp2
  refine then_normal (loneTo_wp ?_)
  go_wp2_with fail
  refine hcl.mono ?_
  rintro _ w2 ⟨v', rfl, hv, hk⟩
  have hP2 := HP.out.keep hk (by simp) (by simp)
  obtain ⟨s, r, hc⟩ := hP2.hc
  have HR := Lib.hid (And.intro hP2 hk)
  have HC : Hid (w2.heap[c]? = some (.chan many buf.toArray false s r false)) := Lib.hid hc
  clear hcl hv hk hP2 hc c0 c1 hn1 hn2
  go_wp2_with fail
  refine then_normal (loneTo_seq ?_)
  refine LoneTo.goes (n := 1) ?_
  s_reg
  s_stop
  refine LoneTo.step (step_lone_select_send_full (c := c) (v := v') (z' := .slice none 0 0) (cap := many) (buf := buf.toArray) (s := s) (r := r) (tm := false) (stepG_comm (cases := #[scase c v' (.slice none 0 0)]) (blocking := false) (shape := .select) (w' := w2) rfl rfl (by decide) (by simp [go_sem, execOp, scase, Act.eval])) HC.out (by have := HRm.out; simp; omega)) ?_
  rw [Frame.finish_at]
  clear HC
  walk_nrm
  refine LoneTo.goes (n := 3) ?_
  s_op
  s_op
  s_c stepG_region_end
  s_stop
  refine loneTo_wp ?_
  go_wp2
  refine out_ret Try.func16 rfl (by simp [results, Try.results16]; rfl) ?_
  exact ⟨rfl, HR.out.1, HR.out.2⟩

/-! ### Drain -/
set_option maxRecDepth 100000 in
set_option maxHeartbeats 800000 in
theorem qDrain (w : World) (p c many : Nat) (words : Int) (buf : List Value) (h : PortB w p c many words buf) (hm : buf.length ≤ 1000000) :
    Calls Try.prog 21 #[.pointer (some ⟨p, 0, none⟩)] w fun e w' => e = .returned (.int .i64 (buf.length : Nat)) ∧ PortB w' p c many words [] ∧ Keep [c] w w' := by
  obtain ⟨n, hn⟩ : ∃ n, buf.length = n := ⟨_, rfl⟩
  have HH := Lib.hid h
  rw [hn] at hm ⊢
  have HN := Lib.hid hn
  clear h hn
  go_enter Try.func21, Try.ntmps21
  go_wp2_with fail
  go_loopg [3] (n + 1) (fun gn i wr => ∃ k : Nat, i = .int .i64 k ∧ k ≤ n ∧ gn = n + 1 - k ∧ PortB wr p c many words (buf.drop k) ∧ Keep [c] w wr)
  case atStart => exact ⟨0, rfl, by omega, by omega, HH.out, Keep.refl _ _⟩
  case round =>
    obtain ⟨k, rfl, hkn, rfl, hP, hk⟩ := hrel
    by_cases hlt : k < n
    · obtain ⟨v, hv⟩ : ∃ v, buf[k]? = some v := ⟨_, List.getElem?_eq_getElem (by have := HN.out; omega)⟩
      have hd : buf.drop k = v :: buf.drop (k + 1) := by
        obtain ⟨h1, h2⟩ := List.getElem?_eq_some_iff.1 hv
        rw [← h2]; exact List.drop_eq_getElem_cons h1
      rw [hd] at hP
      have HP := Lib.hid (And.intro hP hk)
      clear hP hk hd hv
      go_wp2_with fail
      refine (qTake_yes _ p c many words v _ HP.out.1).mono ?_
      rintro _ w2 ⟨rfl, hP2, hk2⟩
      have H2 := Lib.hid (And.intro hP2 (HP.out.2.trans hk2))
      clear HP hP2 hk2
      go_wp2_with fail
      go_roundg (n + 1 - (k + 1))
      case measure => omega
      case rel => exact ⟨k + 1, by go_num, by omega, rfl, H2.out.1, H2.out.2⟩
    · obtain rfl : k = n := by omega
      have hd : buf.drop k = [] := List.drop_eq_nil_of_le (by have := HN.out; omega)
      rw [hd] at hP
      have HP := Lib.hid (And.intro hP hk)
      clear hP hk hd
      go_wp2_with fail
      refine (qTake_no _ p c many words HP.out.1).mono ?_
      rintro _ w2 ⟨rfl, rfl⟩
      go_wp2
      go_ret
      exact ⟨rfl, HP.out.1, HP.out.2⟩
end Go.Proofs.Ytjiienoflgolpaa
