import Derived.Test.YtajlpicdkdeceaaIi
import Derived.Test.YtajlpicdkdeceaaIl
namespace Go.Proofs.Ytajlpicdkdeceaa
open Go.RowKit
set_option linter.unusedSimpArgs false
set_option linter.unusedVariables false
attribute [local go_sem] ob_alloc ob_drew ob_drewN ob_setCell ob_setBlock objSet_cells obMap_map obClock_map isMapI_map keyI_mk findI_nil findI_cons lookRes_some lookRes_none lookRes_some' lookRes_none' setBlock_alloc mapPut

/-- the cells of arguments are parts -/
theorem prd_of {w : World} {v : Value} {xs : List (List Value)} (hv : RdA w 3 v xs) (hx : ∀ c ∈ xs, GCells w [.int .i64, .bool, .ints .u64] c) : ∃ l, PRd w v l := by
  have key : ∀ ys : List (List Value), (∀ c ∈ ys, GCells w [.int .i64, .bool, .ints .u64] c) → ∃ (rs : List RT) (l : List PB), rs.length = ys.length ∧ l.length = ys.length ∧ (∀ (i : Nat) r p, rs[i]? = some r → l[i]? = some p → r.is w p) ∧ ∀ (i : Nat) r, rs[i]? = some r → ys[i]? = some [.int .i64 r.pg, .bool r.wr, .slice r.sa r.sn r.sc] := by
    intro ys
    induction ys with
    | nil => intro _; exact ⟨[], [], rfl, rfl, by simp, by simp⟩
    | cons c ys ih =>
      intro h
      obtain ⟨rs, l, h1, h2, h3, h4⟩ := ih (fun c hc => h c (List.mem_cons_of_mem _ hc))
      obtain ⟨v1, r1, rfl, ⟨pg, rfl, hpg⟩, v2, r2, rfl, ⟨wr, rfl⟩, v3, r3, rfl, ⟨ws, hws⟩, rfl⟩ := h c (.head _)
      obtain ⟨sa, sc, e, _, _⟩ := hws.1.len
      rw [List.length_map] at e
      subst e
      refine ⟨⟨pg, wr, sa, ws.length, sc⟩ :: rs, ⟨pg, wr, ws⟩ :: l, by simp [h1], by simp [h2], fun i r p hr hp => ?_, fun i r hr => ?_⟩
      · cases i with
        | zero => simp at hr hp; subst hr hp; exact ⟨rfl, rfl, hws⟩
        | succ i => exact h3 i r p (by simpa using hr) (by simpa using hp)
      · cases i with
        | zero => simp at hr; subst hr; rfl
        | succ i => exact h4 i r (by simpa using hr)
  obtain ⟨rs, l, h1, h2, h3, h4⟩ := key xs hx
  refine ⟨l, rs, by omega, ?_, h3⟩
  obtain ⟨a, cap, e, hc, hm⟩ := hv.len
  rw [← h1] at e hc
  refine ⟨a, cap, e, hc, hm, fun i r hr => ?_⟩
  have hxi := h4 i r hr
  obtain ⟨b, off, cap', e2, hb, hX⟩ := hv.2 (by have := (List.getElem?_eq_some_iff.1 hxi).1; omega)
  rw [e] at e2
  simp only [Value.slice.injEq] at e2
  obtain ⟨rfl, _, rfl⟩ := e2
  obtain ⟨_, hc⟩ := hX i _ hxi
  exact ⟨b, off, rfl, hb, hc 0 _ rfl, hc 1 _ rfl, hc 2 _ rfl⟩
def tot (l : List PB) (k : Nat) : Nat := 1 + ((l.take k).map fun p => 4 + 8 * p.ws.length).sum
theorem tot_succ {l : List PB} {k : Nat} {p : PB} (h : l[k]? = some p) : tot l (k + 1) = tot l k + 4 + 8 * p.ws.length := by
  unfold tot
  rw [List.take_add_one, h]
  simp
  omega
set_option maxRecDepth 100000 in
set_option maxHeartbeats 2000000 in
theorem size14 (w : World) (v : Value) (l : List PB) (h : PRd w v l) : Calls Try.prog 6 #[v] w fun e w' => e = .returned (.bool true) ∧ Keep [] w w' := by
  have HP := Lib.hid h
  obtain ⟨a, cap, rfl, hc1, hc2⟩ := h.len
  unfold maxLen at hc2
  clear h
  obtain ⟨n, hn⟩ : ∃ n, l.length = n := ⟨_, rfl⟩
  rw [hn] at hc1 ⊢
  rw [hn] at HP
  go_enter Try.func6, Try.ntmps6
  go_wp2_with fail
  refine (pAwake _).mono ?_
  rintro _ w1 ⟨rfl, hk1⟩
  have HK1 := Lib.hid hk1
  clear hk1
  go_wp2_with fail
  refine (pLight _ _ _ (HP.out.keep HK1.out)).mono ?_
  rintro _ w2 ⟨ok, rfl, hok, hk2⟩
  have HK2 := Lib.hid (HK1.out.trans hk2)
  clear hk2 HK1
  have HOK := Lib.hid hok
  clear hok
  go_wp2_with fail
  refine (pBytes _ _ _ (HP.out.keep HK2.out)).mono ?_
  rintro e w3 ⟨hk3, hb⟩
  have HK3 := Lib.hid (HK2.out.trans hk3)
  clear hk3 HK2
  by_cases hr : right l = true
  · rw [if_pos hr] at hb
    obtain ⟨bv, rfl, hbr⟩ := hb
    obtain ⟨ab, capb, rfl, hl1, hl2⟩ := hbr.1.len
    rw [List.length_map] at hl1 ⊢
    obtain ⟨N, hN⟩ : ∃ N, (enc l).length = N := ⟨_, rfl⟩
    rw [List.length_map, hN] at hbr
    rw [hN] at hl1 ⊢
    have hN0 : 1 ≤ N := by rw [← hN, enc]; simp
    unfold maxLen at hl2
    cases ok with
    | false =>
      go_wp2_with fail
      go_ret
      exact ⟨ret_b (by simp), HK3.out⟩
    | true =>
      obtain ⟨hp1, hp2, hp3⟩ := right_ok hr
      have HO := Lib.hid (And.intro hr hp1)
      have hNt : N = tot l n := by rw [← hN, enc_len, total, tot, List.take_of_length_le (by omega)]
      have hb0 : ∃ b0 o0, ab = some ⟨b0, o0, none⟩ ∧ w3.cell? ⟨b0, o0, none⟩ = some (.int .u8 n) := by
        obtain ⟨b0, o0, cap', e, _, _, hX⟩ := hbr.1.pos (by rw [List.length_map]; omega)
        rw [List.length_map, hN] at e
        simp only [Value.slice.injEq, true_and] at e
        obtain ⟨rfl, rfl⟩ := e
        refine ⟨b0, o0, rfl, ?_⟩
        have := hX 0 (.int .u8 n) (by rw [enc, hn]; simp; omega)
        rw [Nat.add_zero] at this
        exact this
      obtain ⟨b0, o0, rfl, hc0⟩ := hb0
      rw [hn] at hp2 hp3
      have HBR := Lib.hid (And.intro hbr hNt)
      clear hr hp1 hbr hNt
      go_upto_region 8 with fail
      go_loopg [7, 8] n (fun gn s7 s8 wr => ∃ k : Nat, s7 = .int .i64 (tot l k) ∧ s8 = .int .i64 k ∧ k ≤ n ∧ gn = n - k ∧ tot l k ≤ 1 + 132 * k ∧ wr = w3)
      case atStart => exact ⟨0, rfl, rfl, by omega, by omega, by simp [tot], rfl⟩
      case round =>
        obtain ⟨k, rfl, rfl, hk, rfl, htk, rfl⟩ := hrel
        by_cases hlt : k < n
        · have hx : l[k]? = some (l[k]'(by omega)) := List.getElem?_eq_getElem _
          generalize (l[k]'(by omega)) = p at hx
          obtain ⟨b, off, cap', sa, sc, hveq, _, _, hb, q0, q1, q2, _, hs1, hs2⟩ := (HP.out.keep HK3.out).at hx
          simp only [Value.slice.injEq, hn, true_and] at hveq
          obtain ⟨rfl, rfl⟩ := hveq
          have hpk := (HO.out.2 p (List.mem_of_getElem? hx)).2.2.2
          have HT := Lib.hid (tot_succ hx)
          obtain ⟨m, hm⟩ : ∃ m, p.ws.length = m := ⟨_, rfl⟩
          rw [hm] at q2 HT hpk hs1
          clear hx q0 q1 hm
          generalize tot l k = T at *
          have hw1 : IntKind.i64.wrap ((T : Int) + 4) = T + 4 := by unfold IntKind.wrap; simp [IntKind.bits, IntKind.signed]; omega
          have hw2 : IntKind.i64.wrap (8 * (m : Int)) = 8 * m := by unfold IntKind.wrap; simp [IntKind.bits, IntKind.signed]; omega
          go_wp2_with fail
          go_roundg (n - (k + 1))
          case measure => omega
          case rel => exact ⟨k + 1, by rw [HT.out]; go_num, by go_num, by omega, rfl, by rw [HT.out]; omega, rfl⟩
        · obtain rfl : k = n := by omega
          obtain ⟨hbr, hNt⟩ := HBR.out
          rw [← hNt]
          clear hNt hbr
          go_wp2_with fail
          refine (bRight _ _ _ (HP.out.keep HK3.out)).mono ?_
          rintro _ w4 ⟨rfl, hk4⟩
          rw [HO.out.1]
          have HK4 := Lib.hid (HK3.out.trans hk4)
          clear hk4
          go_wp2_with fail
          go_ret
          exact ⟨by trivial, HK4.out⟩
  · rw [if_neg hr] at hb
    subst hb
    cases ok
    all_goals
      go_wp2_with fail
      go_ret
      exact ⟨ret_b (by simp), HK3.out⟩
end Go.Proofs.Ytajlpicdkdeceaa
