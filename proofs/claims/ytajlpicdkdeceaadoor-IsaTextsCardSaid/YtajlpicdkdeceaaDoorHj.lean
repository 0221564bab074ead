import Derived.Test.YtajlpicdkdeceaaDoorHh
namespace Go.Proofs.YtajlpicdkdeceaaDoor
open Go.RowKit
set_option linter.unusedSimpArgs false
set_option linter.unusedVariables false
attribute [local go_sem] ob_alloc ob_drew ob_drewN ob_setCell ob_setBlock objSet_cells obMap_map obClock_map isMapI_map keyI_mk findI_nil findI_cons lookRes_some lookRes_none lookRes_some' lookRes_none' setBlock_alloc mapPut
open Go.Lib

set_option maxRecDepth 100000 in
set_option maxRecDepth 100000 in
set_option maxHeartbeats 800000 in
theorem rName (o : Nat) (ho : o < 12) (w : World) : Calls Tryd.prog 23 #[.int .i64 (o : Int)] w fun e w' => e = .returned (.string (wdB o)) ∧ Keep [] w w' := by
  rcases (by omega : o = 0 ∨ o = 1 ∨ o = 2 ∨ o = 3 ∨ o = 4 ∨ o = 5 ∨ o = 6 ∨ o = 7 ∨ o = 8 ∨ o = 9 ∨ o = 10 ∨ o = 11) with rfl | rfl | rfl | rfl | rfl | rfl | rfl | rfl | rfl | rfl | rfl | rfl
  all_goals
    clear ho
    go_enter Tryd.func23, Tryd.ntmps23
    go_wp2_with fail
    go_ret
    exact ⟨by rfl, (Keep.refl _ _).alloc _⟩
theorem dig_ex (k : Nat) (hk : k < 10) : (⟨#[48, 49, 50, 51, 52, 53, 54, 55, 56, 57]⟩ : ByteArray).extract k (k + 1) = decB (k : Int) := by
  have key : ∀ q : Fin 10, (⟨#[48, 49, 50, 51, 52, 53, 54, 55, 56, 57]⟩ : ByteArray).extract q.val (q.val + 1) = ⟨#[UInt8.ofNat (48 + q.val)]⟩ := by decide
  have := key ⟨k, hk⟩
  simp only at this
  rw [this]
  unfold decB
  rw [Int.toNat_natCast, decDigits_one hk]
theorem dec_app (n : Nat) (h : ¬ n < 10) : decB ((n / 10 : Nat) : Int) ++ decB ((n % 10 : Nat) : Int) = decB (n : Int) := by
  unfold decB
  simp only [Int.toNat_natCast]
  rw [decDigits.eq_1 n, dif_neg h, decDigits_one (i := n % 10) (by omega)]
  apply ByteArray.ext
  simp [ByteArray.data_append]
set_option maxRecDepth 100000 in
set_option maxHeartbeats 2000000 in
theorem rDigits : ∀ (n : Nat), n ≤ 100000 → ∀ w : World, Calls Tryd.prog 25 #[.int .i64 (n : Int)] w fun e w' => e = .returned (.string (decB (n : Int))) ∧ w' = w := by
  intro n
  induction n using Nat.strongRecOn with
  | _ n ih =>
    intro hn w
    by_cases h10 : n < 10
    · have h10' : (n : Int) < 10 := by omega
      have hx := dig_ex n h10
      go_enter Tryd.func25, Tryd.ntmps25
      go_wp2_with fail
      go_ret
      exact ⟨by trivial, rfl⟩
    · have h10' : ¬ (n : Int) < 10 := by omega
      have ha := ih (n / 10) (by omega) (by omega)
      have hb := ih (n % 10) (by omega) (by omega)
      have hs := dec_app n h10
      have hsz1 : (decB ((n / 10 : Nat) : Int)).size ≤ 5 := decB_size _ (by omega) (by omega)
      have hsz2 : (decB ((n % 10 : Nat) : Int)).size ≤ 5 := decB_size _ (by omega) (by omega)
      have e1 : ((n / 10 : Nat) : Int) = (n : Int) / 10 := by omega
      have e2 : ((n % 10 : Nat) : Int) = (n : Int) % 10 := by omega
      rw [e1] at ha hs hsz1
      rw [e2] at hb hs hsz2
      generalize decB ((n : Int) / 10) = s1 at *
      generalize decB ((n : Int) % 10) = s2 at *
      have HA := Lib.hid ha
      have HB := Lib.hid hb
      have HS := Lib.hid hs
      clear ha hb ih hs e1 e2
      go_enter Tryd.func25, Tryd.ntmps25
      go_wp2_with fail
      refine (HA.out _).mono ?_
      rintro _ w2 ⟨rfl, hw2⟩
      obtain rfl : w = w2 := hw2.symm
      go_wp2_with fail
      refine (HB.out _).mono ?_
      rintro _ w3 ⟨rfl, hw3⟩
      obtain rfl : w = w3 := hw3.symm
      go_wp2_with fail
      go_ret
      exact ⟨by rw [← HS.out]; rfl, rfl⟩
/-- the text so far -/
def accT (i : IN) (k : Nat) : List UInt8 := wd i.op.toNat ++ joinTail [32] (argsTo i (k + 1))
theorem args_skip {i : IN} {k : Nat} (h : named i.op.toNat k = false) : argsTo i (k + 1) = argsTo i k := by
  unfold argsTo
  rw [List.range_succ, List.filter_append]
  simp [h]
theorem args_add {i : IN} {k : Nat} (h : named i.op.toNat k = true) : argsTo i (k + 1) = argsTo i k ++ [arg i k] := by
  unfold argsTo
  rw [List.range_succ, List.filter_append]
  simp [h]
theorem acc_zero (i : IN) : accT i 0 = wd i.op.toNat := by
  unfold accT
  rw [args_skip (k := 0) rfl]
  simp [argsTo, joinTail]
theorem acc_text (i : IN) : accT i 4 = text i := by
  unfold accT text parts
  rw [join_cons]
theorem acc_skip {i : IN} {k : Nat} (h : named i.op.toNat (k + 1) = false) : accT i (k + 1) = accT i k := by
  unfold accT
  rw [args_skip h]
theorem acc_add {i : IN} {k : Nat} (h : named i.op.toNat (k + 1) = true) : accT i (k + 1) = accT i k ++ 32 :: arg i (k + 1) := by
  unfold accT
  rw [args_add h]
  simp [joinTail]
theorem acc_size {i : IN} (h : right i = true) (k : Nat) (hk : k ≤ 4) : (toB (accT i k)).size ≤ 100 := by
  have h1 := wd_len i.op.toNat
  have h2 : (joinTail [32] (argsTo i (k + 1))).length ≤ 7 * (argsTo i (k + 1)).length := tail_len _ (fun x hx => by
    simp only [argsTo, List.mem_map, List.mem_filter, List.mem_range] at hx
    obtain ⟨q, ⟨hq, hn⟩, rfl⟩ := hx
    have hq0 : 0 < q := by
      unfold named at hn
      simp at hn
      omega
    have hf := right_f h (by omega) hq0
    have := nDigits_bd (i.f q).toNat (by omega)
    unfold arg
    split
    · omega
    · simp; omega)
  have h3 : (argsTo i (k + 1)).length ≤ k + 1 := by
    have := partsB_len i (k + 1)
    unfold partsB at this
    simpa using this
  show (accT i k).toArray.size ≤ 100
  unfold accT
  simp
  omega
set_option maxRecDepth 100000 in
set_option maxHeartbeats 4000000 in
theorem rText (w : World) (i : IN) (hw : i.wf) : Calls Tryd.prog 9 #[inV i] w (TextPost w i) := by
  obtain ⟨op, hop⟩ : ∃ x, i.op = x := ⟨_, rfl⟩
  obtain ⟨a, ha⟩ : ∃ x, i.a = x := ⟨_, rfl⟩
  obtain ⟨b, hb⟩ : ∃ x, i.b = x := ⟨_, rfl⟩
  obtain ⟨c, hc⟩ : ∃ x, i.c = x := ⟨_, rfl⟩
  obtain ⟨im, hm⟩ : ∃ x, i.im = x := ⟨_, rfl⟩
  have hV : inV i = .agg #[.int .i64 op, .int .i64 a, .int .i64 b, .int .i64 c, .int .i64 im] := by unfold inV; rw [hop, ha, hb, hc, hm]
  have hpf : (blk (vI fun q => i.f (q + 1)) 4) = #[.int .i64 a, .int .i64 b, .int .i64 c, .int .i64 im] := by
    rw [← ha, ← hb, ← hc, ← hm]; rfl
  have HPF := Lib.hid hpf
  have HIV := Lib.hid hV
  rw [hV]
  have hkA : Keep [] w (w.alloc (.cells #[.int .i64 op, .int .i64 a, .int .i64 b, .int .i64 c, .int .i64 im] 23)) := (Keep.refl _ _).alloc _
  have HO := Lib.hid (And.intro hkA (al_new w (.cells #[.int .i64 op, .int .i64 a, .int .i64 b, .int .i64 c, .int .i64 im] 23) rfl))
  have HOP := Lib.hid (And.intro hop hw)
  clear hw hkA hop ha hb hc hm hV hpf
  go_enter Tryd.func9, Tryd.ntmps9
  go_wp2_with fail
  have hO := HO.out
  clear HO
  generalize w.alloc (.cells #[.int .i64 op, .int .i64 a, .int .i64 b, .int .i64 c, .int .i64 im] 23) = w0 at *
  generalize w.heap.size = bi at *
  rw [← HIV.out]
  refine (rRight w0 i HOP.out.2).mono ?_
  rintro _ w1 ⟨rfl, hk1⟩
  rw [HIV.out]
  have HO1 := Lib.hid (And.intro (hO.1.trans hk1) (hk1.kp hO.2 (by simp)))
  clear hO hk1
  cases hr : right i with
  | false =>
    have HR := Lib.hid hr
    clear hr
    go_wp2_with fail
    go_ret2
    exact ⟨HO1.out.1, by rw [HR.out]; rfl⟩
  | true =>
    obtain ⟨o, ho, ho12⟩ := op_nat hr
    obtain rfl : op = o := HOP.out.1.symm.trans ho
    have hiO : i.op.toNat = o := by rw [ho]; rfl
    have HR := Lib.hid (And.intro hr hiO)
    clear hr hiO ho
    obtain ⟨c0, c1, c2, c3, c4, lc⟩ := rd_in HO1.out.2
    go_wp2_with fail
    refine (rName o ho12 w1).mono ?_
    rintro _ w2 ⟨rfl, hk2⟩
    have HO2 := Lib.hid (And.intro (HO1.out.1.trans hk2) (hk2.kp HO1.out.2 (by simp)))
    clear hk2 HO1 c0 c1 c2 c3 c4 lc
    obtain ⟨c0, c1, c2, c3, c4, lc⟩ := rd_in HO2.out.2
    go_wp2_with fail
    refine (rNames o ho12 w2).mono ?_
    rintro _ w3 ⟨rfl, hk3⟩
    have HO3 := Lib.hid (And.intro (HO2.out.1.trans hk3) (hk3.kp HO2.out.2 (by simp)))
    generalize hh1 : has o 1 = n1 at *
    generalize hh2 : has o 2 = n2 at *
    generalize hh3 : has o 3 = n3 at *
    generalize hh4 : has o 4 = n4 at *
    have HH := Lib.hid (And.intro hh1 (And.intro hh2 (And.intro hh3 hh4)))
    clear hk3 HO2 hh1 hh2 hh3 hh4 c0 c1 c2 c3 c4 lc
    go_upto_region 5 with fail
    have hA := (Keep.refl [] w3).alloc (.cells #[.bool n1, .bool n2, .bool n3, .bool n4] 49)
    have HO4 := Lib.hid (And.intro (HO3.out.1.trans hA) (And.intro (hA.kp HO3.out.2 (by simp)) (al_new w3 (.cells #[.bool n1, .bool n2, .bool n3, .bool n4] 49) rfl)))
    clear HO3 hA
    generalize w3.alloc (.cells #[.bool n1, .bool n2, .bool n3, .bool n4] 49) = w4 at *
    generalize w3.heap.size = nb at *
    obtain ⟨c0, c1, c2, c3, c4, lc⟩ := rd_in HO4.out.2.1
    have hB := (Keep.refl [] w4).alloc (.cells #[.int .i64 a, .int .i64 b, .int .i64 c, .int .i64 im] 51)
    have HO5 := Lib.hid (And.intro (HO4.out.1.trans hB) (And.intro (hB.kp HO4.out.2.2 (by simp)) (al_new w4 (.cells #[.int .i64 a, .int .i64 b, .int .i64 c, .int .i64 im] 51) rfl)))
    clear hB
    go_upto_region 6 with fail
    have h5 := HO5.out
    clear HO5 c0 c1 c2 c3 c4 lc HO4
    generalize w4.alloc (.cells #[.int .i64 a, .int .i64 b, .int .i64 c, .int .i64 im] 51) = w5 at *
    generalize w4.heap.size = pb at *
    obtain ⟨hk5, hn5, hp5⟩ := h5
    rw [← HPF.out] at hp5
    have HK5 := Lib.hid hk5
    have HNB := Lib.hid hn5
    have HPB := Lib.hid hp5
    clear hk5 hn5 hp5
    have hz : wdB o = toB (accT i 0) := by rw [acc_zero, HR.out.2]; rfl
    rw [hz]
    clear hz
    go_wp2_with fail
    go_loopg [4, 7] 4 (fun gn s4 s7 wr => ∃ k : Nat, s4 = .string (toB (accT i k)) ∧ s7 = .int .i64 k ∧ k ≤ 4 ∧ gn = 4 - k ∧ wr = w5)
    case atStart => exact ⟨0, rfl, rfl, by omega, rfl, rfl⟩
    case round =>
      obtain ⟨k, rfl, rfl, hk, rfl, rfl⟩ := hrel
      by_cases hlt : k < 4
      · have hk4 : (k : Int) < 4 := by omega
        obtain ⟨B, hB⟩ : ∃ B, has o (k + 1) = B := ⟨_, rfl⟩
        obtain ⟨n, hn⟩ : ∃ n, i.f (k + 1) = n := ⟨_, rfl⟩
        have hnf := right_f HR.out.1 (k := k + 1) (by omega) (by omega)
        rw [hn] at hnf
        have q0 : wr.cell? ⟨nb, k, none⟩ = some (.bool B) := by
          rw [cell_of_ob HNB.out, ← hB]
          obtain ⟨g1, g2, g3, g4⟩ := HH.out
          match k, hlt with
          | 0, _ => rw [g1]; rfl
          | 1, _ => rw [g2]; rfl
          | 2, _ => rw [g3]; rfl
          | 3, _ => rw [g4]; rfl
        have q1 : wr.cell? ⟨pb, k, none⟩ = some (.int .i64 n) := by
          rw [blk_cell HPB.out hlt]
          show some (Value.int .i64 (i.f (k + 1))) = _
          rw [hn]
        have l0 := ob_lt HNB.out
        have l1 := ob_lt HPB.out
        have hnm : named i.op.toNat (k + 1) = B := by
          unfold named
          rw [HR.out.2, hB]
          simp
        have hsz := acc_size HR.out.1 k (by omega)
        have hdz := decB_size n hnf.1 hnf.2
        have hdg := rDigits n.toNat (by omega)
        have hnn : (n.toNat : Int) = n := by omega
        rw [hnn] at hdg
        have HDG := Lib.hid hdg
        have hargd : arg i (k + 1) = if k + 1 = 4 then decDigits n.toNat else 114 :: decDigits n.toNat := by unfold arg; rw [hn]
        have HAR := Lib.hid (And.intro hargd hnm)
        clear hB hn hnm hdg hnn hargd hnf
        obtain ⟨S, hS⟩ : ∃ S, toB (accT i k) = S := ⟨_, rfl⟩
        have HSe := Lib.hid hS
        rw [hS] at hsz
        simp only [hS]
        clear hS
        cases B with
        | false =>
          go_wp2_with fail
          go_roundg (4 - (k + 1))
          case measure => omega
          case rel => exact ⟨k + 1, by rw [acc_skip HAR.out.2, HSe.out], by go_num, by omega, rfl, rfl⟩
        | true =>
          by_cases k3 : k < 3
          · have k3' : (k : Int) < 3 := by omega
            have k3b : ((k : Int) == 3) = false := by simp; omega
            have hstr : toB (accT i (k + 1)) = (S ++ ⟨#[32, 114]⟩) ++ decB n := by
              rw [acc_add HAR.out.2, HAR.out.1, if_neg (by omega), ← HSe.out]
              unfold toB decB
              apply ByteArray.ext
              simp [ByteArray.data_append]
            have HST := Lib.hid hstr
            clear hstr
            go_wp2_with fail
            refine (HDG.out _).mono ?_
            rintro _ w6 ⟨rfl, hw6⟩
            obtain rfl : wr = w6 := hw6.symm
            go_wp2_with fail
            go_roundg (4 - (k + 1))
            case measure => omega
            case rel => exact ⟨k + 1, by rw [HST.out], by go_num, by omega, rfl, rfl⟩
          · obtain rfl : k = 3 := by omega
            have hstr : toB (accT i (3 + 1)) = (S ++ ⟨#[32]⟩) ++ decB n := by
              rw [acc_add HAR.out.2, HAR.out.1, if_pos rfl, ← HSe.out]
              unfold toB decB
              apply ByteArray.ext
              simp [ByteArray.data_append]
            have HST := Lib.hid hstr
            clear hstr k3
            go_wp2_with fail
            refine (HDG.out _).mono ?_
            rintro _ w6 ⟨rfl, hw6⟩
            obtain rfl : wr = w6 := hw6.symm
            go_wp2_with fail
            go_roundg (4 - (3 + 1))
            case measure => omega
            case rel => exact ⟨3 + 1, by rw [HST.out], by go_num, by omega, rfl, rfl⟩
      · obtain rfl : k = 4 := by omega
        rw [acc_text]
        go_wp2_with fail
        go_ret2
        exact ⟨HK5.out, by rw [HR.out.1]; rfl⟩
end Go.Proofs.YtajlpicdkdeceaaDoor
