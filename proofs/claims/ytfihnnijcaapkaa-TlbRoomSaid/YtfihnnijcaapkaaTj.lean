import Derived.Test.YtfihnnijcaapkaaTi
import Derived.Laws.BitsLemmas
import Derived.Deep.RegionWith
namespace Go.Proofs.Ytfihnnijcaapkaa
open Go.RowKit
set_option linter.unusedSimpArgs false
set_option linter.unusedVariables false
attribute [local go_sem] ob_alloc ob_drew ob_drewN ob_setCell ob_setBlock objSet_cells obMap_map obClock_map isMapI_map keyI_mk findI_nil findI_cons lookRes_some lookRes_none lookRes_some' lookRes_none' setBlock_alloc mapPut
attribute [local go_sem ↓] eql29 neq29

theorem i64_and7 (n : Int) : bits .and .i64 n 7 = n % 8 := by
  have h127 : (BitVec.ofInt 64 7).toNat = 2 ^ 3 - 1 := by decide
  have key : (BitVec.ofInt 64 n &&& BitVec.ofInt 64 7).toNat = (n % ((2 ^ 64 : Nat) : Int)).toNat % 2 ^ 3 := by
    rw [BitVec.toNat_and, BitVec.toNat_ofInt, h127, Nat.and_two_pow_sub_one_eq_mod]
  show IntKind.i64.wrap ((BitVec.ofInt 64 n &&& BitVec.ofInt 64 7).toNat : Nat) = n % 8
  rw [key, IntKind.wrap_i64]
  omega
def lnR (first : Int) (j : Nat) : Ln := ⟨1 + (j : Int) % 3, first + (j : Int), (j : Int), false⟩
def roomB (first : Int) (k : Nat) : Nat → Option Ln := fun j => if j < k then some (lnR first j) else none
def roomS (first : Int) (q k : Nat) : Nat → Option Ln := if k ≤ 8 then roomB first k else upS (roomB first 8) q (some (lnR first 8))
theorem roomB_succ (first : Int) (k : Nat) : upS (roomB first k) k (some (lnR first k)) = roomB first (k + 1) := by
  funext j
  unfold upS roomB
  by_cases e : j = k
  · subst e; simp
  · rw [if_neg e]
    by_cases h : j < k
    · rw [if_pos h, if_pos (by omega)]
    · rw [if_neg h, if_neg (by omega)]
theorem room_no (first : Int) (k : Nat) (n : Nat) (hn : n ≤ k) : firstP (eqK (lnR first k).a (lnR first k).p) (roomB first n) 8 = none := by
  rw [firstP_none]
  intro j _
  unfold roomB
  split
  · rename_i h
    have : ¬ first + (j : Int) = first + (k : Int) := by omega
    simp [eqK, lnR, this]
  · rfl
theorem room_ok {first : Int} (h0 : 0 ≤ first) (h1 : first ≤ 4000) {k : Nat} (hk : k ≤ 8) {at' : Int} (ha : 0 ≤ at') (hb : at' < 8) : okPut (lnR first k) at' = true := by
  simp [okPut, rightB, lnR]
  omega
theorem room_step {first : Int} (h0 : 0 ≤ first) (h1 : first ≤ 4000) {k : Nat} (hk : k ≤ 8) {at' : Int} (ha : 0 ≤ at') (hb : at' < 8) (q : Nat) (hq : k = 8 → at' = (q : Int)) : putS (roomS first q k) (lnR first k) at' = roomS first q (k + 1) := by
  unfold putS
  rw [if_pos (room_ok h0 h1 hk ha hb)]
  have hS : roomS first q k = roomB first k := if_pos hk
  rw [hS]
  unfold placeR
  rw [room_no first k k (Nat.le_refl _)]
  by_cases h8 : k = 8
  · subst h8
    have hn : firstP Option.isNone (roomB first 8) 8 = none := by
      rw [firstP_none]
      intro j hj
      unfold roomB
      rw [if_pos hj]; rfl
    rw [hn]
    have hS2 : roomS first q (8 + 1) = upS (roomB first 8) q (some (lnR first 8)) := if_neg (by omega)
    rw [hS2]
    simp only
    rw [hq rfl]
    rfl
  · have hn : firstP Option.isNone (roomB first k) 8 = some k := by
      refine firstP_eq (by omega) ?_ (fun j hj => ?_)
      · unfold roomB; rw [if_neg (by omega)]; rfl
      · unfold roomB; rw [if_pos hj]; rfl
    rw [hn]
    simp only
    rw [roomB_succ]
    exact (if_pos (by omega)).symm
theorem room_put {first : Int} (h0 : 0 ≤ first) (h1 : first ≤ 4000) {k : Nat} (hk : k ≤ 8) {at' : Int} (ha : 0 ≤ at') (hb : at' < 8) : putR (lnR first k) at' = 0 := by
  unfold putR; rw [if_pos (room_ok h0 h1 hk ha hb)]
theorem linesR_full {S : Nat → Option Ln} {f : Nat → Ln} : ∀ {k : Nat}, (∀ j, j < k → S j = some (f j)) → (linesR S k).length = k ∧ ∀ j, j < k → (linesR S k)[j]? = some (f j)
  | 0, _ => ⟨rfl, fun j hj => by omega⟩
  | k + 1, h => by
    obtain ⟨h1, h2⟩ := linesR_full (k := k) (fun j hj => h j (by omega))
    rw [linesR_succ, h k (by omega)]
    refine ⟨by simp [h1], fun j hj => ?_⟩
    by_cases e : j = k
    · subst e
      rw [List.getElem?_append_right (by omega), h1]; simp
    · rw [List.getElem?_append_left (by omega)]; exact h2 j (by omega)
theorem linesR_room (first : Int) (k : Nat) : ∀ n, (linesR (roomB first k) n).length = min k n
  | 0 => by simp [linesR]
  | n + 1 => by
    rw [linesR_succ, List.length_append, linesR_room first k n]
    unfold roomB
    by_cases h : n < k
    · rw [if_pos h]; simp; omega
    · rw [if_neg h]; simp; omega
def endF (first : Int) (q : Nat) (j : Nat) : Ln := if j = q then lnR first 8 else lnR first j
theorem room_end (first : Int) (q : Nat) (j : Nat) (hj : j < 8) : roomS first q 9 j = some (endF first q j) := by
  have hS2 : roomS first q 9 = upS (roomB first 8) q (some (lnR first 8)) := if_neg (by omega)
  rw [hS2]
  unfold upS endF roomB
  by_cases e : j = q
  · simp [e]
  · simp [e, hj]
theorem room_len (first : Int) (q : Nat) {k : Nat} (hk : k ≤ 8) : ((linesR (roomS first q (k + 1)) 8).length : Int) = min ((k : Int) + 1) 8 := by
  by_cases h : k = 8
  · subst h
    rw [(linesR_full (room_end first q)).1]; rfl
  · have hS : roomS first q (k + 1) = roomB first (k + 1) := if_pos (by omega)
    rw [hS, linesR_room]
    omega
theorem room_find {first : Int} {q : Nat} (hU : Uniq (roomS first q 9)) {i : Nat} (hi : i < 8) (hq : q < 8) : findR (roomS first q 9) (lnR first i).a (lnR first i).p = if i = q then none else some (lnR first i) := by
  by_cases e : i = q
  · rw [if_pos e]
    unfold findR
    rw [firstP_none.2]
    intro j hj
    rw [room_end first q j hj]
    unfold endF
    by_cases e2 : j = q
    · rw [if_pos e2]
      have : ¬ first + 8 = first + (i : Int) := by omega
      simp [eqK, lnR, this]
    · rw [if_neg e2]
      have : ¬ first + (j : Int) = first + (i : Int) := by omega
      simp [eqK, lnR, this]
  · rw [if_neg e]
    exact find_at hU hi (by rw [room_end first q i hi]; unfold endF; rw [if_neg e])
theorem room_last {first : Int} {q : Nat} (hU : Uniq (roomS first q 9)) (hq : q < 8) : findR (roomS first q 9) (lnR first 8).a (lnR first 8).p = some (lnR first 8) := by
  exact find_at hU hq (by rw [room_end first q q hq]; unfold endF; rw [if_pos rfl])
theorem B1.putRoom {W0 : World} {b : Nat} {w : World} {first : Int} {q k : Nat} {x : Int} (h : B1 W0 b w (roomS first q k)) (h0 : 0 ≤ first) (h1 : first ≤ 4000) (hk : k ≤ 8) (hq : k = 8 → x % 8 = (q : Int)) :
    Calls Try.prog 13 #[.pointer (some ⟨b, 0, none⟩), .agg #[.int .i64 (1 + (k : Int) % 3), .int .i64 (first + (k : Int)), .int .i64 (k : Int), .bool false], .int .i64 (bits BinOp.and IntKind.i64 x 7)] w fun e w' => e = .returned (.int .i64 0) ∧ B1 W0 b w' (roomS first q (k + 1)) ∧ Keep [b] w w' := by
  rw [i64_and7]
  have e1 := room_put h0 h1 hk (at' := x % 8) (by omega) (by omega)
  have e2 := room_step h0 h1 hk (at' := x % 8) (by omega) (by omega) q hq
  have := h.put (1 + (k : Int) % 3) (first + (k : Int)) (k : Int) false (x % 8)
  unfold lnR at e1 e2
  rw [e1, e2] at this
  exact this
theorem room_facts {first : Int} {q : Nat} (hU : Uniq (roomS first q 9)) (hq : q < 8) :
    (∀ i : Nat, i < 8 → findR (roomS first q 9) (1 + (i : Int) % 3) (first + (i : Int)) = if i = q then none else some ⟨1 + (i : Int) % 3, first + (i : Int), (i : Int), false⟩) ∧
    findR (roomS first q 9) 3 (first + 8) = some ⟨3, first + 8, 8, false⟩ ∧ (linesR (roomS first q 9) 8).length = 8 ∧ (linesR (roomS first q 9) 8)[q]? = some ⟨3, first + 8, 8, false⟩ := by
  have h1 : ∀ i : Nat, i < 8 → findR (roomS first q 9) (lnR first i).a (lnR first i).p = if i = q then none else some (lnR first i) := fun i hi => room_find hU hi hq
  have h2 := room_last hU hq
  have h3 := (linesR_full (room_end first q)).1
  have h4 := (linesR_full (room_end first q)).2 q hq
  generalize roomS first q 9 = S at *
  refine ⟨h1, ?_, h3, ?_⟩
  · have e : lnR first 8 = ⟨3, first + 8, 8, false⟩ := by simp [lnR]
    rw [e] at h2
    exact h2
  · have e : lnR first 8 = ⟨3, first + 8, 8, false⟩ := by simp [lnR]
    rw [h4]
    unfold endF
    rw [if_pos rfl, e]
set_option maxRecDepth 100000 in
set_option maxHeartbeats 16000000 in
theorem room09 (W0 : World) (A : Nat → Int) (first : Int) :
    Calls Try.prog 5 #[.agg (blk (fun j => .int .i64 (A j)) 9), .int .i64 first] W0 fun o w' => o = .returned (.bool true) ∧ Keep [] W0 w' := by
  have hk0 : Keep [] W0 (W0.alloc (.cells (blk (fun j => .int .i64 (A j)) 9) 39)) := (Keep.refl _ _).alloc _
  have ha0 : ob (W0.alloc (.cells (blk (fun j => .int .i64 (A j)) 9) 39)) W0.heap.size = some (.cells (blk (fun j => .int .i64 (A j)) 9) 39 (0, 0)) := al_new _ _ rfl
  go_enter Try.func5, Try.ntmps5
  go_wp2_with fail
  generalize W0.alloc (.cells (blk (fun j => .int .i64 (A j)) 9) 39) = w0 at *
  have hxa := ob_lt ha0
  generalize hxe : W0.heap.size = xa at *
  refine (awake09 w0).mono ?_
  rintro _ w1 ⟨rfl, hk1⟩
  go_wp2_with fail
  refine (tNew w1).mono ?_
  rintro _ w2 ⟨rfl, hB2, hk2, hs2⟩
  have hA0 : B1 W0 w1.heap.size w2 (fun _ => none) := ⟨hB2.addK (by simp), Uniq.none, (hk0.trans hk1).trans hk2, (hk0.trans hk1).size⟩
  have ha2 := hk2.kp (hk1.kp ha0 (by simp)) (by simp)
  have hne : xa ≠ w1.heap.size := by have := hk1.size; omega
  generalize w1.heap.size = b at *
  clear hB2 hk1 hk2 hs2 hk0 ha0 hxa
  by_cases hf0 : 0 ≤ first
  · by_cases hf1 : first ≤ 4000
    · obtain ⟨q, hq, hq8⟩ : ∃ q : Nat, A 8 % 8 = (q : Int) ∧ q < 8 := ⟨(A 8 % 8).toNat, by omega, by omega⟩
      have hS0 : (fun _ => none : Nat → Option Ln) = roomS first q 0 := by
        unfold roomS; rw [if_pos (by omega)]; funext j; unfold roomB; rw [if_neg (by omega)]
      rw [hS0] at hA0
      clear hS0
      go_wp2_with fail
      go_loopg [7] 9 (fun gn i wr => ∃ k : Nat, i = .int .i64 k ∧ k ≤ 9 ∧ gn = 9 - k ∧ B1 W0 b wr (roomS first q k) ∧ ob wr xa = some (.cells (blk (fun j => .int .i64 (A j)) 9) 39 (0, 0)))
      case atStart => exact ⟨0, rfl, by omega, by omega, hA0, ha2⟩
      case round =>
        clear hA0 ha2
        obtain ⟨k, rfl, hk9, rfl, hA, ha⟩ := hrel
        by_cases hk : k < 9
        · --[[
          have hc : wr.cell? ⟨xa, k, none⟩ = some (.int .i64 (A k)) := by rw [cell_of_ob ha]; exact blk_get _ hk
          have HA := Lib.hid (And.intro hA ha)
          clear ha hA
          go_wp2_with fail
          refine (HA.out.1.putRoom hf0 hf1 (by omega) (by rintro rfl; exact hq)).mono ?_
          rintro _ w3 ⟨rfl, hB3, hk3⟩
          have ha3 := hk3.kp HA.out.2 (by simp; exact hne)
          have HB3 := Lib.hid (And.intro hB3 ha3)
          clear hB3 ha3 hk3 HA hc
          go_wp2_with fail
          refine HB3.out.1.lines.mono ?_
          rintro _ w4 ⟨va, vc, rfl, _, hB4, hk4⟩
          have hl := room_len first q (k := k) (by omega)
          have HB4 := Lib.hid (And.intro hB4 (hk4.kp HB3.out.2 (by simp)))
          generalize (linesR (roomS first q (k + 1)) 8).length = m at *
          clear hB4 hk4 HB3
          by_cases h8 : k = 8
          · subst h8
            obtain rfl : m = 8 := by omega
            clear hl
            go_wp2
            go_roundg 0
            case measure => omega
            case rel => exact ⟨9, by go_num, by omega, by omega, HB4.out.1, HB4.out.2⟩
          · obtain rfl : m = k + 1 := by omega
            clear hl
            go_wp2
            go_roundg (9 - (k + 1))
            case measure => omega
            case rel => exact ⟨k + 1, by go_num, by omega, rfl, HB4.out.1, HB4.out.2⟩
        · obtain rfl : k = 9 := by omega
          have HF := Lib.hid (room_facts hA.un hq8)
          generalize roomS first q 9 = S9 at *
          have HA := Lib.hid (And.intro hA ha)
          clear ha hA
          go_wp2_with fail
          go_loopg [8] 8 (fun gn i wr => ∃ k : Nat, i = .int .i64 k ∧ k ≤ 8 ∧ gn = 8 - k ∧ B1 W0 b wr S9 ∧ ob wr xa = some (.cells (blk (fun j => .int .i64 (A j)) 9) 39 (0, 0)))
          case atStart => exact ⟨0, rfl, by omega, by omega, HA.out.1, HA.out.2⟩
          case round =>
            clear HA
            obtain ⟨k, rfl, hk8, rfl, hA, ha⟩ := hrel
            have hc8 : wr.cell? ⟨xa, 8, none⟩ = some (.int .i64 (A 8)) := by rw [cell_of_ob ha]; exact blk_get _ (by omega)
            by_cases hk : k < 8
            · --[[
              have HFd := Lib.hid (HF.out.1 k hk)
              have HA := Lib.hid (And.intro hA ha)
              clear ha hA
              by_cases hkq : k = q
              · rw [if_pos hkq] at HFd
                have hd : ((k : Int) == bits BinOp.and IntKind.i64 (A 8) 7) = true := by rw [i64_and7, hq, hkq]; simp
                clear hkq HF hq hq8
                generalize hbb : bits BinOp.and IntKind.i64 (A 8) 7 = bb at *
                go_wp2_with fail
                refine (HA.out.1.findN HFd.out).mono ?_
                rintro _ w5 ⟨rfl, hB5, hk5⟩
                have ha5 : ob (w5.alloc (.cells #[.int .i64 0, .int .i64 0, .int .i64 0, .bool false] 29)) xa = _ := (hk5.alloc _).kp HA.out.2 (by simp)
                have hc8 : (w5.alloc (.cells #[.int .i64 0, .int .i64 0, .int .i64 0, .bool false] 29)).cell? ⟨xa, 8, none⟩ = some (.int .i64 (A 8)) := by rw [cell_of_ob ha5]; exact blk_get _ (by omega)
                have HB5 := Lib.hid (And.intro (hB5.alloc (.cells #[.int .i64 0, .int .i64 0, .int .i64 0, .bool false] 29)) ha5)
                clear HA hB5 ha5 hk5 HFd
                go_wp2_with fail
                all_goals first
                  | (exfalso; simp at hd; done)
                  | (exfalso; simp at hd; omega)
                  | skip
                go_roundg (8 - (k + 1))
                case measure => omega
                case rel => exact ⟨k + 1, by go_num, by omega, rfl, HB5.out.1, HB5.out.2⟩
              · rw [if_neg hkq] at HFd
                have hd : ((k : Int) == bits BinOp.and IntKind.i64 (A 8) 7) = false := by rw [i64_and7, hq]; simp; omega
                clear hkq HF hq hq8
                generalize hbb : bits BinOp.and IntKind.i64 (A 8) 7 = bb at *
                go_wp2_with fail
                refine (HA.out.1.findY HFd.out).mono ?_
                rintro _ w5 ⟨rfl, hB5, hk5⟩
                have ha5 : ob (w5.alloc (.cells #[.int .i64 (1 + (k : Int) % 3), .int .i64 (first + (k : Int)), .int .i64 (k : Int), .bool false] 29)) xa = _ := (hk5.alloc _).kp HA.out.2 (by simp)
                have hc8 : (w5.alloc (.cells #[.int .i64 (1 + (k : Int) % 3), .int .i64 (first + (k : Int)), .int .i64 (k : Int), .bool false] 29)).cell? ⟨xa, 8, none⟩ = some (.int .i64 (A 8)) := by rw [cell_of_ob ha5]; exact blk_get _ (by omega)
                have HB5 := Lib.hid (And.intro (hB5.alloc (.cells #[.int .i64 (1 + (k : Int) % 3), .int .i64 (first + (k : Int)), .int .i64 (k : Int), .bool false] 29)) ha5)
                clear HA hB5 ha5 hk5 HFd
                have hd2 : (!((k : Int) != bb)) = false := by simp at hd; simp [hd]
                go_wp2_with fail
                all_goals first
                  | (exfalso; simp at hd; done)
                  | (exfalso; simp at hd; omega)
                  | skip
                go_roundg (8 - (k + 1))
                case measure => omega
                case rel => exact ⟨k + 1, by go_num, by omega, rfl, HB5.out.1, HB5.out.2⟩
            · obtain rfl : k = 8 := by omega
              have HA := Lib.hid (And.intro hA ha)
              clear ha hA
              go_wp2_with fail
              refine (HA.out.1.findY HF.out.2.1).mono ?_
              rintro _ w5 ⟨rfl, hB5, hk5⟩
              have hB6 := hB5.alloc (.cells #[.int .i64 3, .int .i64 (first + 8), .int .i64 8, .bool false] 29)
              have ha6 : ob (w5.alloc (.cells #[.int .i64 3, .int .i64 (first + 8), .int .i64 8, .bool false] 29)) xa = _ := ((hk5.alloc _).kp HA.out.2 (by simp))
              have hl6 : ob (w5.alloc (.cells #[.int .i64 3, .int .i64 (first + 8), .int .i64 8, .bool false] 29)) w5.heap.size = some (lnO ⟨3, first + 8, 8, false⟩) := al_new _ _ rfl
              have hne2 : xa ≠ w5.heap.size := by have := ob_lt (hk5.kp HA.out.2 (by simp)); omega
              have H6 := Lib.hid (And.intro hB6 (And.intro ha6 hl6))
              clear HA hB5 hB6 ha6 hl6 hk5
              go_wp2_with fail
              have hB6 := H6.out.1
              have ha6 := H6.out.2.1
              have hl6 := H6.out.2.2
              generalize w5.alloc (.cells #[.int .i64 3, .int .i64 (first + 8), .int .i64 8, .bool false] 29) = w6 at *
              clear hc8 H6
              have hc8 : w6.cell? ⟨xa, 8, none⟩ = some (.int .i64 (A 8)) := by rw [cell_of_ob ha6]; exact blk_get _ (by omega)
              generalize w5.heap.size = xl at *
              have l0 : w6.cell? ⟨xl, 0, none⟩ = some (.int .i64 3) := by rw [cell_of_ob hl6]; rfl
              have l1 : w6.cell? ⟨xl, 1, none⟩ = some (.int .i64 (first + 8)) := by rw [cell_of_ob hl6]; rfl
              have l2 : w6.cell? ⟨xl, 2, none⟩ = some (.int .i64 8) := by rw [cell_of_ob hl6]; rfl
              have l3 : w6.cell? ⟨xl, 3, none⟩ = some (.bool false) := by rw [cell_of_ob hl6]; rfl
              have hD := hB6.drew
              have hbq : bits BinOp.and IntKind.i64 (A 8) 7 = (q : Int) := by rw [i64_and7, hq]
              have HF2 := Lib.hid HF.out.2.2
              have hq1 : (q : Int) < 8 := by omega
              have hq2 : 0 ≤ (q : Int) := by omega
              have hq3 : 0 ≤ (q : Int) ∧ (q : Int) < 8 := ⟨hq2, hq1⟩
              have HA6 := Lib.hid (And.intro ha6 hl6)
              clear HF hq ha6 hl6 hB6 hne hne2 hf0 hf1 hxe hk8 hk hk9
              go_region_with
                (first
                  | (go_at_call 15; refine (B1.lines (by with_reducible assumption)).mono ?_; rintro _ w7 ⟨va, vc, rfl, hR7, hB7, hk7⟩; rw [HF2.out.1] at hR7 ⊢; have ha7 := hk7.kp (show ob w6.drew xa = _ from HA6.out.1) (by simp); have hl7 := hk7.kp (show ob w6.drew xl = _ from HA6.out.2) (by simp); have hc8 : w7.cell? ⟨xa, 8, none⟩ = some (.int .i64 (A 8)) := (by rw [cell_of_ob ha7]; exact blk_get _ (by omega)); have l0 : w7.cell? ⟨xl, 0, none⟩ = some (.int .i64 3) := (by rw [cell_of_ob hl7]; rfl); have l1 : w7.cell? ⟨xl, 1, none⟩ = some (.int .i64 (first + 8)) := (by rw [cell_of_ob hl7]; rfl); have l2 : w7.cell? ⟨xl, 2, none⟩ = some (.int .i64 8) := (by rw [cell_of_ob hl7]; rfl); have l3 : w7.cell? ⟨xl, 3, none⟩ = some (.bool false) := (by rw [cell_of_ob hl7]; rfl); obtain ⟨g, cc, e1, -, -, -, -, hq7⟩ := RowE.get hR7 HF2.out.2; simp only [Value.slice.injEq, true_and] at e1; obtain ⟨rfl, -, rfl⟩ := e1; have p0 := hq7 0 _ rfl; have p1 := hq7 1 _ rfl; have p2 := hq7 2 _ rfl; have p3 := hq7 3 _ rfl; rw [Nat.add_zero] at p0; have HB7 := Lib.hid hB7; clear hq7 hR7 ha7 hl7 hB7 hk7 hD))
              all_goals
                go_wp2
                go_ret
                exact ⟨rfl, HB7.out.kp⟩
    · have hE := hA0.kp
      clear hA0 ha2
      go_wp2
      go_ret
      exact ⟨rfl, hE⟩
  · have hE := hA0.kp
    clear hA0 ha2
    go_wp2
    go_ret
    exact ⟨rfl, hE⟩
end Go.Proofs.Ytfihnnijcaapkaa
