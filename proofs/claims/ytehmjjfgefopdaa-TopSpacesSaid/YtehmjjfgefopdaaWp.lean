import Derived.Test.YtehmjjfgefopdaaWo
namespace Go.Proofs.Ytehmjjfgefopdaa
open Go.RowKit
set_option linter.unusedSimpArgs false
set_option linter.unusedVariables false
attribute [local go_sem] ob_alloc ob_drew ob_drewN ob_setCell ob_setBlock objSet_cells obMap_map obClock_map isMapI_map keyI_mk findI_nil findI_cons lookRes_some lookRes_none lookRes_some' lookRes_none' setBlock_alloc mapPut

/-! ### a new giver of frames -/
structure NS (R at' : Nat) (L : LS) : Prop where
  bi : BI L
  cv : ∀ g, cov L g = if R ≤ g ∧ g < at' then 1 else 0
  lf : left L + R = at'
  ra : R ≤ at'
def LN : LS := fun _ => []
theorem cov_LN (g : Nat) : cov LN g = 0 := by
  unfold cov
  rw [List.sum_eq_zero_iff_forall_eq_nat.2]
  intro x hx
  simp only [List.mem_map, List.mem_range] at hx
  obtain ⟨k, hk, rfl⟩ := hx
  rfl
theorem NS.init (R : Nat) : NS R R LN := by
  refine ⟨⟨fun k => .nil, fun k f h => by (cases h), fun g => by rw [cov_LN]; omega⟩, fun g => by rw [cov_LN, if_neg (by omega)], ?_, Nat.le_refl _⟩
  have : left LN = 0 := by
    unfold left
    rw [List.sum_eq_zero_iff_forall_eq_nat.2]
    intro x hx
    simp only [List.mem_map, List.mem_range] at hx
    obtain ⟨k, hk, rfl⟩ := hx
    simp [LN]
  omega
theorem NS.put {R a : Nat} {L : LS} (h : NS R a L) {k : Nat} (hk : k < 9) (hd : 2 ^ k ∣ a) : NS R (a + 2 ^ k) (updL L k (ins a (L k))) := by
  have hp := Nat.two_pow_pos k
  obtain ⟨a1, a2, a3⟩ := h.bi.put hk hd (fun g e1 e2 => by rw [h.cv, if_neg (by omega)])
  have hra := h.ra
  refine ⟨a1, fun g => ?_, by have := h.lf; omega, by omega⟩
  rw [a2, h.cv]
  unfold cvr
  by_cases e1 : R ≤ g ∧ g < a
  · rw [if_pos e1, if_neg (by omega), if_pos (by omega)]
  · rw [if_neg e1]
    by_cases e2 : a ≤ g ∧ g < a + 2 ^ k
    · rw [if_pos e2, if_pos (by omega)]
    · rw [if_neg e2, if_neg (by omega)]
theorem NS.done {R N : Nat} {L : LS} (h : NS R N L) (hN : N ≤ 256) : BS N R L [] :=
  ⟨h.bi, .nil, fun g => by simp [h.cv], by simp [h.lf], hN⟩
def NewP (w : World) (m N R : Nat) : Ending → World → Prop := fun o w' => ∃ bd L F', o = .returned (.tuple #[.pointer (some ⟨bd, 0, none⟩), .int .i64 0]) ∧ BudAt w' bd m L [] F' ∧ BS N R L [] ∧ Keep [] w w' ∧ GF w [] F' ∧ w.heap.size ≤ bd
set_option maxRecDepth 100000 in
set_option maxHeartbeats 2000000 in
theorem bNew (w : World) (m g N R : Nat) (M : Nat → Nat → EN) (hM : MemE w m g N M) (hR : R ≤ N) :
    Calls Try.prog 6 #[.pointer (some ⟨m, 0, none⟩), .int .i64 (R : Int)] w (NewP w m N R) := by
  have hN := hM.1.2.2.2.2
  have HM := Lib.hid hM
  have hr1 : decide ((R : Int) < 0) = false := by simp
  have hr2 : decide (N < R) = false := by simp; omega
  have hr3 : decide ((N : Int) < (R : Int)) = false := by simp; omega
  clear hM
  have hmm : ∀ w : World, (Instr.makeMap 52 none).run Try.prog w = .ok (.map (some w.heap.size)) (w.alloc (.map #[] 0)) := fun _ => rfl
  go_enter Try.func6, Try.ntmps6
  go_wp2_with (first | (go_at_call 16; refine (mFrames w m g N _ HM.out.1).mono ?_; rintro _ w3 ⟨rfl, rfl⟩) | fail)
  clear hr1 hr2 hr3
  have k1 : Keep [] w ((w.alloc (.map #[] 0)).alloc (.cells #[.pointer (some ⟨m, 0, none⟩), .slice none 0 0, .slice none 0 0, .slice none 0 0, .slice none 0 0, .slice none 0 0, .slice none 0 0, .slice none 0 0, .slice none 0 0, .slice none 0 0, .map (some w.heap.size)] 55)) := ((Keep.refl _ _).alloc _).alloc _
  have hb1 : ob ((w.alloc (.map #[] 0)).alloc (.cells #[.pointer (some ⟨m, 0, none⟩), .slice none 0 0, .slice none 0 0, .slice none 0 0, .slice none 0 0, .slice none 0 0, .slice none 0 0, .slice none 0 0, .slice none 0 0, .slice none 0 0, .map (some w.heap.size)] 55)) (w.heap.size + 1) = some (.cells (blk (bC m w.heap.size (fun _ => .slice none 0 0)) 11) 55 (0, 0)) := al_new _ _ (by simp)
  have hb2 : ob ((w.alloc (.map #[] 0)).alloc (.cells #[.pointer (some ⟨m, 0, none⟩), .slice none 0 0, .slice none 0 0, .slice none 0 0, .slice none 0 0, .slice none 0 0, .slice none 0 0, .slice none 0 0, .slice none 0 0, .slice none 0 0, .map (some w.heap.size)] 55)) w.heap.size = some (.map #[] 0) := al (al_new w _ rfl)
  have HB0 : Hid (Bw w _ (w.heap.size + 1) m LN [] []) := Lib.hid ⟨[w.heap.size + 1, w.heap.size], ⟨w.heap.size, fun _ => .slice none 0 0, ⟨hb1, fun k _ => .inl ⟨rfl, rfl⟩, fun j k _ _ _ b h => (by cases h), ⟨_, _, hb2, rfl, .nil⟩⟩, fun b => (by simp [Value.ownBlock])⟩, k1, fun b hb => .inr (by simp at hb; omega)⟩
  have HM0 := Lib.hid (HM.out.keep k1 (by simp) (by simp))
  clear k1 hb1 hb2 HM
  generalize ((w.alloc (.map #[] 0)).alloc (.cells #[.pointer (some ⟨m, 0, none⟩), .slice none 0 0, .slice none 0 0, .slice none 0 0, .slice none 0 0, .slice none 0 0, .slice none 0 0, .slice none 0 0, .slice none 0 0, .slice none 0 0, .map (some w.heap.size)] 55)) = w1 at *
  go_loopg [7] (N - R) (fun gn s7 wr => ∃ (a : Nat) (L : LS), s7 = .int .i64 a ∧ Bw w wr (w.heap.size + 1) m L [] [] ∧ MemE wr m g N M ∧ NS R a L ∧ a ≤ N ∧ gn = N - a)
  case atStart => exact ⟨R, LN, rfl, HB0.out, HM0.out, NS.init R, hR, rfl⟩
  case round =>
    clear HB0 HM0
    obtain ⟨a, L, rfl, hBw, hMr, hNS, haN, rfl⟩ := hrel
    have HB := Lib.hid hBw
    have HMr := Lib.hid hMr
    have HNS := Lib.hid hNS
    clear hBw hMr hNS
    by_cases hlt : a < N
    · have hlt' : (a : Int) < (N : Int) := by omega
      go_wp2_with (first | (go_at_call 16; refine (mFrames wr m g N _ HMr.out.1).mono ?_; rintro _ w3 ⟨rfl, rfl⟩) | fail)
      clear hlt'
      go_loopg [8] 9 (fun gn s8 w' => ∃ k : Nat, s8 = .int .i64 k ∧ k ≤ 8 ∧ 2 ^ k ∣ a ∧ a + 2 ^ k ≤ N ∧ Bw w w' (w.heap.size + 1) m L [] [] ∧ MemE w' m g N M ∧ gn = 9 - k)
      case atStart => exact ⟨0, rfl, by omega, by simp, by simp; omega, HB.out, HMr.out, rfl⟩
      case round =>
        clear HB HMr
        rename_i w' _
        obtain ⟨k, rfl, hk8, hdv, hkN, hB', hM', hgk⟩ := hrel
        have HB := Lib.hid hB'
        have HMr := Lib.hid hM'
        clear hB' hM'
        by_cases hk : k < 8
        · have hkk : decide ((k : Int) < 8) = true := by simp; omega
          obtain ⟨Q, hQ⟩ : ∃ Q, 2 ^ (k + 1) = Q := ⟨_, rfl⟩
          have hQ2 : Q ≤ 256 := by rw [← hQ]; exact pow_shl (k + 1) (by omega)
          have hQp : 0 < Q := by rw [← hQ]; exact Nat.two_pow_pos _
          have hs2 : IntKind.i64.wrap (2 * (2 : Int) ^ k) = (Q : Int) := by
            have : (2 * (2 : Int) ^ k) = (Q : Int) := by rw [← hQ, Nat.pow_succ, Nat.mul_comm]; simp
            rw [this]; exact IntWalk.i64_in _ (by omega)
          have hQ0 : ((Q : Int) == 0) = false := by simp; omega
          have hQz : ¬ (Q : Int) = 0 := by omega
          have hQn : Q ≠ 0 := by omega
          have hmd : Int.tmod (a : Int) (Q : Int) = ((a % Q : Nat) : Int) := by rfl
          have HQ := Lib.hid hQ
          have HQM : Hid (∀ n, Calls Try.prog 16 #[.pointer (some ⟨m, 0, none⟩)] (wr.drewN n) fun o w' => o = .returned (.int .i64 N) ∧ w' = wr.drewN n) := Lib.hid (fun n => (mFrames _ m g N _ (HMr.out.1.keep ((Keep.refl [] wr).drewN n) (by simp) (by simp))).mono (fun _ _ ⟨a, b⟩ => ⟨a, b.symm⟩))
          have haq : IntKind.i64.wrap ((a : Int) + (Q : Int)) = ((a + Q : Nat) : Int) := by rw [IntWalk.i64_in _ (by omega)]; omega
          clear hQ
          go_wp2_with fail
          by_cases hd : a % Q = 0
          · have hdb : ((a : Int) % (Q : Int) == 0) = true := by simp; omega
            by_cases hle : a + Q ≤ N
            · have hle' : decide ((a : Int) + (Q : Int) ≤ (N : Int)) = true := by simp; omega
              go_quiet ((go_at_call 16; exact Calls.quiet_of_same (HQM.out _)))
              have kd : Keep [] wr (wr.drewN nq) := (Keep.refl _ _).drewN nq
              have HB5 := Lib.hid (HB.out.new kd)
              have HM5 := Lib.hid (HMr.out.keep kd (by simp) (by simp))
              clear HB HMr kd HQM
              generalize wr.drewN nq = w5 at *
              go_wp2_with fail
              go_roundg (9 - (k + 1))
              case measure => omega
              case rel => exact ⟨k + 1, by go_num, by omega, by rw [HQ.out]; exact Nat.dvd_of_mod_eq_zero hd, by rw [HQ.out]; exact hle, HB5.out, HM5.out, rfl⟩
            · have hle' : decide ((a : Int) + (Q : Int) ≤ (N : Int)) = false := by simp; omega
              go_quiet ((go_at_call 16; exact Calls.quiet_of_same (HQM.out _)))
              clear HQM
              have kd : Keep [] wr (wr.drewN nq) := (Keep.refl _ _).drewN nq
              have HB5 := Lib.hid (HB.out.new kd)
              have HM5 := Lib.hid (HMr.out.keep kd (by simp) (by simp))
              clear HB HMr kd
              generalize wr.drewN nq = w5 at *
              go_wp2_with fail
              obtain ⟨F5, hB5, hK5, hG5⟩ := HB5.out
              have hlL : (L k).length ≤ 1000 := by
                have h1 := len_le_left L k (by omega)
                have h2 := HNS.out.lf
                omega
              refine (bPut w5 (w.heap.size + 1) m L [] F5 hB5 a k (by omega) (HNS.out.bi.srt k) hlL).mono ?_
              rintro _ w6 ⟨rfl, F6, hB6, hK6, hG6⟩
              have HB6 := Lib.hid (Bw.next hK5 hG5 hB6 hK6 hG6)
              have HM6 := Lib.hid (HM5.out.keep hK6 (hB5.not HM5.out.mkind) (hB5.not HM5.out.gkind))
              have HN6 := Lib.hid (HNS.out.put (k := k) (by omega) hdv)
              clear hB5 hK5 hG5 hB6 hK6 hG6 hlL HB5 HM5
              go_wp2_with fail
              go_roundg (N - (a + 2 ^ k))
              case measure => have := Nat.two_pow_pos k; omega
              case rel => exact ⟨a + 2 ^ k, _, congrArg (Value.int .i64) (w2f a k (by omega) (by omega)), HB6.out, HM6.out, HN6.out, hkN, rfl⟩
          · have hdb : ((a : Int) % (Q : Int) == 0) = false := by simp; omega
            go_quiet ((go_at_call 16; exact Calls.quiet_of_same (HQM.out _)))
            clear HQM
            have kd : Keep [] wr (wr.drewN nq) := (Keep.refl _ _).drewN nq
            have HB5 := Lib.hid (HB.out.new kd)
            have HM5 := Lib.hid (HMr.out.keep kd (by simp) (by simp))
            clear HB HMr kd
            generalize wr.drewN nq = w5 at *
            go_wp2_with fail
            obtain ⟨F5, hB5, hK5, hG5⟩ := HB5.out
            have hlL : (L k).length ≤ 1000 := by
              have h1 := len_le_left L k (by omega)
              have h2 := HNS.out.lf
              omega
            refine (bPut w5 (w.heap.size + 1) m L [] F5 hB5 a k (by omega) (HNS.out.bi.srt k) hlL).mono ?_
            rintro _ w6 ⟨rfl, F6, hB6, hK6, hG6⟩
            have HB6 := Lib.hid (Bw.next hK5 hG5 hB6 hK6 hG6)
            have HM6 := Lib.hid (HM5.out.keep hK6 (hB5.not HM5.out.mkind) (hB5.not HM5.out.gkind))
            have HN6 := Lib.hid (HNS.out.put (k := k) (by omega) hdv)
            clear hB5 hK5 hG5 hB6 hK6 hG6 hlL HB5 HM5
            go_wp2_with fail
            go_roundg (N - (a + 2 ^ k))
            case measure => have := Nat.two_pow_pos k; omega
            case rel => exact ⟨a + 2 ^ k, _, congrArg (Value.int .i64) (w2f a k (by omega) (by omega)), HB6.out, HM6.out, HN6.out, hkN, rfl⟩
        · obtain rfl : k = 8 := by omega
          go_wp2_with fail
          go_quiet (fail)
          have kd : Keep [] wr (wr.drewN nq) := (Keep.refl _ _).drewN nq
          have HB5 := Lib.hid (HB.out.new kd)
          have HM5 := Lib.hid (HMr.out.keep kd (by simp) (by simp))
          clear HB HMr kd
          generalize wr.drewN nq = w5 at *
          go_wp2_with fail
          obtain ⟨F5, hB5, hK5, hG5⟩ := HB5.out
          have hlL : (L 8).length ≤ 1000 := by
            have h1 := len_le_left L 8 (by omega)
            have h2 := HNS.out.lf
            omega
          refine (bPut w5 (w.heap.size + 1) m L [] F5 hB5 a 8 (by omega) (HNS.out.bi.srt 8) hlL).mono ?_
          rintro _ w6 ⟨rfl, F6, hB6, hK6, hG6⟩
          have HB6 := Lib.hid (Bw.next hK5 hG5 hB6 hK6 hG6)
          have HM6 := Lib.hid (HM5.out.keep hK6 (hB5.not HM5.out.mkind) (hB5.not HM5.out.gkind))
          have HN6 := Lib.hid (HNS.out.put (k := 8) (by omega) hdv)
          clear hB5 hK5 hG5 hB6 hK6 hG6 hlL HB5 HM5
          go_wp2_with fail
          go_roundg (N - (a + 2 ^ 8))
          case measure => have := Nat.two_pow_pos 8; omega
          case rel => exact ⟨a + 2 ^ 8, _, congrArg (Value.int .i64) (show ((a : Int) + 256) = ((a + 2 ^ 8 : Nat) : Int) by omega), HB6.out, HM6.out, HN6.out, hkN, rfl⟩
    · obtain rfl : a = N := by omega
      go_wp2_with (first | (go_at_call 16; refine (mFrames wr m g a _ HMr.out.1).mono ?_; rintro _ w3 ⟨rfl, rfl⟩) | fail)
      go_ret2
      obtain ⟨F', x1, x2, x3⟩ := HB.out
      exact ⟨_, L, F', rfl, x1, HNS.out.done hN, x2, x3, by omega⟩
end Go.Proofs.Ytehmjjfgefopdaa
