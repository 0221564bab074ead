import Derived.Test.YtajlpicdkdeceaaIn
namespace Go.Proofs.Ytajlpicdkdeceaa
open Go.RowKit
set_option linter.unusedSimpArgs false
set_option linter.unusedVariables false
attribute [local go_sem] ob_alloc ob_drew ob_drewN ob_setCell ob_setBlock objSet_cells obMap_map obClock_map isMapI_map keyI_mk findI_nil findI_cons lookRes_some lookRes_none lookRes_some' lookRes_none' setBlock_alloc mapPut

theorem BW.addFrom {w0 w : World} {bv : Value} {bs : List Int} (h : BW w0 w bv bs) (ys : List Int) (hn : bs.length + ys.length ≤ 100000) (a : Addr) (c : Nat) (ha : ∀ (j : Nat) (u : Value), (ys.map (Value.int .u8))[j]? = some u → w.cell? (a.add j) = some u) :
    ∃ va vc w2, (∀ ty, (Builtin.append_ #[23, 23] ty #[bv, .slice (some a) ys.length c]).run Try.prog w = .ok (.slice va (bs.length + ys.length) vc) w2) ∧ BW w0 w2 (.slice va (bs.length + ys.length) vc) (bs ++ ys) := by
  have hsz := h.kp.size
  obtain ⟨va, vc, w2, g1, g2, g3, g4⟩ := h.row.cat (P := Try.prog) Try.underlying23 info5 rfl (by omega) ys a c (fun j u hj => by rw [u8E_flat] at hj; exact ha j u hj) (by omega) (by omega) hsz
  exact ⟨va, vc, w2, g1, g2, h.kp.andThen g3 (fun b hb => by simp only [Option.mem_toList] at hb; exact .inr (ownBlock_ge h.row hb))⟩
theorem RdI.take {w : World} {b off n cap : Nat} {bs : List Int} (h : RdI w .u8 (.slice (some ⟨b, off, none⟩) n cap) bs) (hn : bs.length = n) (hc : n ≤ cap) (hm : cap ≤ maxLen) (h0 : 0 < n) {k : Nat} (hk : k ≤ n) : RdI w .u8 (.slice (some ⟨b, off, none⟩) k cap) (bs.take k) := by
  refine ⟨.inr ⟨_, cap, by rw [List.length_map, List.length_take]; congr 1; omega, by rw [List.length_map, List.length_take]; omega, hm, fun i x hx => ?_⟩, fun x hx => h.2 x (List.mem_of_mem_take hx)⟩
  obtain ⟨b', o', c', e, _, _, hX⟩ := h.1.pos (by rw [List.length_map]; omega)
  simp only [Value.slice.injEq, Option.some.injEq, Addr.mk.injEq, and_true] at e
  obtain ⟨⟨rfl, rfl⟩, _, rfl⟩ := e
  rw [add_mk]
  refine hX i x ?_
  rw [List.map_take, List.getElem?_take] at hx
  split at hx
  · exact hx
  · cases hx
set_option maxRecDepth 100000 in
set_option maxHeartbeats 4000000 in
theorem cut14 (w : World) (v0 : Value) (c : Int) (l : List PB) (h : PRd w v0 l) (hcb : -9223372036854775808 ≤ c ∧ c ≤ 9223372036854775807) : Calls Try.prog 5 #[v0, .int .i64 c] w fun e w' => e = .returned (.bool true) ∧ Keep [] w w' := by
  have HP := Lib.hid h
  obtain ⟨a, cap, rfl, hc1, hc2⟩ := h.len
  unfold maxLen at hc2
  clear h
  obtain ⟨n, hn⟩ : ∃ n, l.length = n := ⟨_, rfl⟩
  rw [hn] at hc1 HP ⊢
  go_enter Try.func5, Try.ntmps5
  go_wp2_with fail
  refine (pAwake _).mono ?_
  rintro _ w1 ⟨rfl, hk1⟩
  have HK1 := Lib.hid hk1
  clear hk1
  go_wp2_with fail
  refine (pLight _ _ _ (HP.out.keep HK1.out)).mono ?_
  rintro _ w2 ⟨ok, rfl, hok, hk2⟩
  have HK2 := Lib.hid (HK1.out.trans hk2)
  clear hk2 HK1 hok
  go_wp2_with fail
  refine (pBytes _ _ _ (HP.out.keep HK2.out)).mono ?_
  rintro e w3 ⟨hk3, hb⟩
  have HK3 := Lib.hid (HK2.out.trans hk3)
  clear hk3 HK2
  by_cases hr : right l = true
  · rw [if_pos hr] at hb
    obtain ⟨bv, rfl, hbr⟩ := hb
    have hN0 : 1 ≤ (enc l).length := by rw [enc]; simp
    obtain ⟨b, off, capb, hve, hl1, hl2, hX⟩ := hbr.1.pos (by rw [List.length_map]; omega)
    rw [List.length_map] at hve hl1
    subst hve
    have hNm : (enc l).length ≤ 10000 := by
      obtain ⟨hp1, _, hp3⟩ := right_ok hr
      have key : ∀ q : List PB, (∀ p ∈ q, okP p) → (encPs q).length ≤ 132 * q.length := by
        intro q
        induction q with
        | nil => intro _; simp [encPs]
        | cons p q ih =>
          intro hq
          have h1 := ih (fun x hx => hq x (List.mem_cons_of_mem _ hx))
          have h2 := hq p (.head _)
          unfold okP at h2
          simp only [encPs, List.flatMap_cons, List.length_append, encP_len, List.length_cons] at h1 ⊢
          omega
      have := key l hp1
      rw [enc, List.length_cons]
      omega
    have HW := Lib.hid HP.out.words
    obtain ⟨N, hN⟩ : ∃ N, (enc l).length = N := ⟨_, rfl⟩
    have HX := Lib.hid (And.intro hr (And.intro hbr hX))
    rw [hN] at hl1 hN0 hNm HX ⊢
    unfold maxLen at hl2
    clear hr hbr hX
    cases ok with
    | false =>
      go_wp2_with fail
      go_ret
      exact ⟨ret_b (by simp), HK3.out⟩
    | true =>
      by_cases hc0 : c < 0
      · go_wp2_with fail
        refine (bRight _ _ _ (HP.out.keep HK3.out)).mono ?_
        rintro _ w4 ⟨rfl, hk4⟩
        rw [HX.out.1]
        have HK4 := Lib.hid (HK3.out.trans hk4)
        clear hk4
        go_wp2_with fail
        go_ret
        exact ⟨by trivial, HK4.out⟩
      · obtain ⟨k, rfl⟩ := Int.eq_ofNat_of_zero_le (Int.not_lt.1 hc0)
        have hmod : k % N < N := Nat.mod_lt _ hN0
        have hti : Int.tmod (k : Int) (N : Int) = ((k % N : Nat) : Int) := by
          rw [Int.tmod_eq_emod_of_nonneg (by omega)]; rfl
        have e1 : decide ((k : Int) < 0) = false := by simp
        have e2 : ((N : Int) == 0) = false := by
          have : (N : Int) ≠ 0 := by omega
          simpa using this
        have hd0 : dec (enc l) = some l := dec_enc l HX.out.1 HW.out
        have hsplit := List.take_append_drop (k % N) (enc l)
        have hd1 : dec ((enc l).take (k % N)) = none := dec_less (t := (enc l).drop (k % N)) (l := l) (by rw [hsplit]; exact hd0) (by
          intro e
          have := congrArg List.length e
          rw [List.length_drop, hN] at this
          simp at this
          omega)
        have hd2 : dec (enc l ++ [0]) = none := dec_more hd0 (by simp)
        have HD := Lib.hid (And.intro hd1 hd2)
        clear hd0 hsplit hd1 hd2
        go_wp2_with fail
        refine (pRead _ _ _ (RdI.take HX.out.2.1 hN hl1 (by unfold maxLen; omega) hN0 (Nat.le_of_lt hmod)) (fun c hc => enc_bytes l c (List.mem_of_mem_take hc))).mono ?_
        rintro e w4 hr4
        rw [HD.out.1] at hr4
        obtain ⟨rfl, hk4⟩ := hr4
        have HK4 := Lib.hid (HK3.out.trans hk4)
        have hB0 : BW w4 (w4.alloc (.cells #[] 5)) (.slice (some ⟨w4.heap.size, 0, none⟩) 0 0) [] := ⟨owns_empty w4 (Nat.le_refl _) 5 1, (Keep.refl _ _).alloc _⟩
        obtain ⟨va, vc, w5, happ1, hB1⟩ := hB0.addFrom (enc l) (by rw [hN]; simp; omega) ⟨b, off, none⟩ capb (fun j u hj => by
          have hcc := HX.out.2.2 j u hj
          rw [add_mk]
          have hlt := World.block_lt_of_cell? (a := ⟨b, off + j, none⟩) _ hcc
          rw [cell_keep (hk4.alloc _) hlt]
          exact hcc)
        rw [hN, List.length_nil, Nat.zero_add] at happ1 hB1
        rw [List.nil_append] at hB1
        obtain ⟨vb, vd, w6, happ2, hB2, -⟩ := hB1.add [0] (by rw [hN]; simp; omega) _ rfl
        rw [hN] at happ2 hB2
        simp only [List.map_cons, List.map_nil, List.length_cons, List.length_nil, Nat.zero_add] at happ2 hB2
        have HB2 := Lib.hid hB2
        clear hk4 HK3 hB0 hB1 hB2 e1 e2
        go_wp2_with (at_builtin; first | (refine wpList_append_eq rfl _ _ _ rfl rfl rfl (happ1 _) ?_; clear happ1) | refine wpList_append_eq rfl _ _ _ rfl rfl rfl (happ2 _) ?_)
        refine (pRead _ _ _ (rd_u8 HB2.out.row (fun c hc => by
          rcases List.mem_append.1 hc with hc | hc
          · exact enc_bytes l c hc
          · simp at hc; subst hc; exact ⟨by omega, by omega⟩)) (fun c hc => by
          rcases List.mem_append.1 hc with hc | hc
          · exact enc_bytes l c hc
          · simp at hc; subst hc; exact ⟨by omega, by omega⟩)).mono ?_
        rintro e w7 hr7
        rw [HD.out.2] at hr7
        obtain ⟨rfl, hk7⟩ := hr7
        have HK7 := Lib.hid ((HK4.out.trans HB2.out.kp).trans hk7)
        clear hk7 HK4 happ2
        go_wp2_with fail
        go_ret
        exact ⟨by trivial, HK7.out⟩
  · rw [if_neg hr] at hb
    subst hb
    have hr0 : right l = false := by simpa using hr
    cases ok with
    | false =>
      go_wp2_with fail
      go_ret
      exact ⟨ret_b (by simp), HK3.out⟩
    | true =>
      go_wp2_with fail
      refine (bRight _ _ _ (HP.out.keep HK3.out)).mono ?_
      rintro _ w4 ⟨rfl, hk4⟩
      rw [hr0]
      have HK4 := Lib.hid (HK3.out.trans hk4)
      clear hk4
      go_wp2_with fail
      go_ret
      exact ⟨by trivial, HK4.out⟩
end Go.Proofs.Ytajlpicdkdeceaa
