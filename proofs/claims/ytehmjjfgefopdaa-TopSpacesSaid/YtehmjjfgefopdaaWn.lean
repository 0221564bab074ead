import Derived.Test.YtehmjjfgefopdaaWm
namespace Go.Proofs.Ytehmjjfgefopdaa
open Go.RowKit
set_option linter.unusedSimpArgs false
set_option linter.unusedVariables false
attribute [local go_sem] ob_alloc ob_drew ob_drewN ob_setCell ob_setBlock objSet_cells obMap_map obClock_map isMapI_map keyI_mk findI_nil findI_cons lookRes_some lookRes_none lookRes_some' lookRes_none' setBlock_alloc mapPut

/-! ### Alloc of a frame -/
def Bw (w0 w : World) (bd m : Nat) (L : LS) (H F : List Nat) : Prop := ∃ F', BudAt w bd m L H F' ∧ Keep F w0 w ∧ GF w0 F F'
section
variable {w0 w w' : World} {bd m : Nat} {L L' : LS} {H H' F F' F'' : List Nat}
theorem Bw.init (h : BudAt w bd m L H F) : Bw w w bd m L H F := ⟨F, h, Keep.refl _ _, GF.refl _ _⟩
theorem Bw.new (h : Bw w0 w bd m L H F) (k : Keep [] w w') : Bw w0 w' bd m L H F := by
  obtain ⟨F', h1, h2, h3⟩ := h
  exact ⟨F', h1.new k, h2.trans (k.mono (by simp)), h3⟩
theorem Bw.next (hK : Keep F w0 w) (hG : GF w0 F F') (hB' : BudAt w' bd m L' H' F'') (hK' : Keep F' w w') (hG' : GF w F' F'') : Bw w0 w' bd m L' H' F :=
  ⟨F'', hB', hK.andThen hK' hG, hG.trans hK.size hG'⟩
theorem Bw.size (h : Bw w0 w bd m L H F) : w0.heap.size ≤ w.heap.size := by
  obtain ⟨F', h1, h2, h3⟩ := h
  exact h2.size
theorem ob_kind {b : Nat} {cs : Array Value} {t : TypeId} {f : Nat × Nat} (h : ob w b = some (.cells cs t f)) (h1 : (t == 55) = false) (h3 : (t == 3) = false) : kindB (ob w b) = false := by
  rw [h]
  unfold kindB
  split
  · rename_i e
    cases e
    rw [h1, h3]; rfl
  · rename_i e; cases e
  · rfl
/-- a box of another kind, written -/
theorem Bw.set (h : Bw w0 w bd m L H F) {b : Nat} {cs : Array Value} {t : TypeId} {f : Nat × Nat} (hb : ob w b = some (.cells cs t f)) (h1 : (t == 55) = false) (h3 : (t == 3) = false) (hn : w0.heap.size ≤ b) {w' : World} (k : Keep [b] w w') : Bw w0 w' bd m L H F := by
  obtain ⟨F', h2, h4, h5⟩ := h
  have : b ∉ F' := h2.not (ob_kind hb h1 h3)
  exact ⟨F', h2.keep k (fun x hx hm => this (by simp at hm; subst hm; exact hx)), h4.andThen k (fun x hx => .inr (by simp at hx; omega)), h5⟩
end
theorem BudW.setH {w w' : World} {bd m hm : Nat} {vs : Nat → Value} {L : LS} {H H' F : List Nat} (h : BudW w bd m hm vs L H) (hF : FpB bd hm vs F) (k : Keep [hm] w w') (hm' : MapB w' hm H') : BudAt w' bd m L H' F ∧ Keep F w w' :=
  ⟨⟨hm, vs, ⟨k.kp h.st (fun e => h.bd_hm (by simpa using e)), fun j hj => (h.ro j hj).keep k (fun b hb e => h.ne_hm hj hb (by simpa using e)), h.df, hm'⟩, hF⟩, k.mono (fun b hb => by simp at hb; subst hb; exact (hF b).2 (.inr (.inl rfl)))⟩
/-- halving, in work -/
structure HV (L : LS) (f j : Nat) (LF : LS) : Prop where
  bi : BI L
  dv : 2 ^ j ∣ f
  z : ∀ g, f ≤ g → g < f + 2 ^ j → cov L g = 0
  lf : left L + 2 ^ j ≤ 256
  fin : halve L f j = LF
theorem HV.step {L : LS} {f j : Nat} {LF : LS} (h : HV L f (j + 1) LF) (hj : j < 9) : HV (updL L j (ins (f + 2 ^ j) (L j))) f j LF := by
  have e2 : 2 ^ (j + 1) = 2 * 2 ^ j := by rw [Nat.pow_succ, Nat.mul_comm]
  have hp := Nat.two_pow_pos j
  have hak : 2 ^ j ∣ f := Nat.dvd_trans ⟨2, by rw [e2, Nat.mul_comm]⟩ h.dv
  obtain ⟨g1, g2, g3⟩ := h.bi.put (f := f + 2 ^ j) (k := j) hj ((Nat.dvd_add_right hak).2 (Nat.dvd_refl _)) (fun g a b => h.z g (by omega) (by rw [e2]; omega))
  refine ⟨g1, hak, fun g a b => ?_, by have := h.lf; omega, h.fin⟩
  rw [g2, h.z g a (by rw [e2]; omega)]
  unfold cvr
  rw [if_neg (by omega)]
theorem HV.begin {N R : Nat} {L : LS} {H : List Nat} (h : BS N R L H) {f k : Nat} (hk : k < 9) (hf : f ∈ L k) : HV (updL L k ((L k).erase f)) f k (halve (updL L k ((L k).erase f)) f k) := by
  obtain ⟨a1, a2, a3⟩ := h.bi.take hk hf
  refine ⟨a1, h.bi.al k f hf, fun g e1 e2 => ?_, ?_, rfl⟩
  · have := a2 g
    have := h.bi.once g
    unfold cvr at *
    rw [if_pos ⟨e1, e2⟩] at *
    omega
  · have := h.lf
    have := h.le
    omega
theorem pow_shl (j : Nat) (hj : j < 9) : (2 : Nat) ^ j ≤ 256 := by
  have : j = 0 ∨ j = 1 ∨ j = 2 ∨ j = 3 ∨ j = 4 ∨ j = 5 ∨ j = 6 ∨ j = 7 ∨ j = 8 := by omega
  rcases this with rfl | rfl | rfl | rfl | rfl | rfl | rfl | rfl | rfl <;> decide
theorem w2p (i : Nat) (hi : i < 9) : wrap64 ((2 : Int) ^ i) = ((2 ^ i : Nat) : Int) := by
  have h := pow_shl i hi
  have e : ((2 : Int) ^ i) = ((2 ^ i : Nat) : Int) := by simp
  rw [e]
  generalize 2 ^ i = P at *
  exact IntWalk.wrap64_in _ (by omega)
theorem w2f (f i : Nat) (hi : i < 9) (hf : f < 1000) : wrap64 ((f : Int) + wrap64 ((2 : Int) ^ i)) = ((f + 2 ^ i : Nat) : Int) := by
  have h := pow_shl i hi
  rw [w2p i hi]
  generalize 2 ^ i = P at *
  rw [IntWalk.wrap64_in _ (by omega)]
  omega
def BXb (w0 w : World) (bd m xb : Nat) (L : LS) (H F : List Nat) (a k : Int) : Prop := Bw w0 w bd m L H F ∧ ob w xb = some (.cells #[.int .i64 a, .int .i64 k] 58 (0, 0))
set_option maxRecDepth 100000 in
set_option maxHeartbeats 2000000 in
theorem bAlloc (w : World) (bd m N R : Nat) (L : LS) (H F : List Nat) (hB : BudAt w bd m L H F) (hS : BS N R L H) (hl : 0 < left L) :
    Calls Try.prog 18 #[.pointer (some ⟨bd, 0, none⟩), .int .i64 0] w fun o w' => ∃ f L', o = .returned (.tuple #[.int .i64 (f : Nat), .int .i64 0]) ∧ BS N R L' (H ++ [f]) ∧ f ∉ H ∧ R ≤ f ∧ f < N ∧ Bw w w' bd m L' (H ++ [f]) F := by
  obtain ⟨K, hK9, hKn⟩ := some_list hl
  have HX0 := Lib.hid (al_new w (.cells #[.int .i64 0, .int .i64 0] 58) rfl)
  have HB0 := Lib.hid ((Bw.init hB).new ((Keep.refl [] w).alloc (.cells #[.int .i64 0, .int .i64 0] 58)))
  have HS := Lib.hid hS
  have HN := Lib.hid hKn
  clear hB hS hl hKn
  go_enter Try.func18, Try.ntmps18
  go_wp2_with fail
  go_step3
  go_wp2_with fail
  generalize w.alloc (.cells #[.int .i64 0, .int .i64 0] 58) = w1 at *
  obtain ⟨xb, hxb⟩ : ∃ xb, w.heap.size = xb := ⟨_, rfl⟩
  have HXB := Lib.hid hxb
  rw [hxb] at HX0
  simp only [hxb]
  clear hxb
  go_step3
  go_wp2_with fail
  obtain ⟨F1, ⟨hm, vs, hW, hF⟩, hK, hG⟩ := HB0.out
  have HW := Lib.hid hW
  have HF := Lib.hid hF
  have HKG := Lib.hid (And.intro hK hG)
  clear hW hF hK hG HB0
  go_loopg [7] (K + 1) (fun gn s7 wr => ∃ k : Nat, s7 = .int .i64 k ∧ k ≤ K ∧ gn = K + 1 - k ∧ wr = w1)
  case atStart => exact ⟨0, rfl, by omega, rfl, rfl⟩
  case round =>
    obtain ⟨k, rfl, hkK, rfl, rfl⟩ := hrel
    have hk8 : ¬ (8 < (k : Int)) := by omega
    have hk9 : (k : Int) < 9 := by omega
    have HL := Lib.hid (HW.out.ro k (by omega))
    have e1 : bC m hm vs (1 + k) = vs k := by unfold bC; rw [if_neg (by omega), if_neg (by omega)]; congr 1; omega
    have rv := blk_cell HW.out.st (i := 1 + k) (by omega)
    rw [e1] at rv
    have lb := ob_lt HW.out.st
    by_cases hn : L k = []
    · have hkK' : k < K := by
        rcases Nat.lt_or_ge k K with h | h
        · exact h
        · exact absurd hn (by rw [show k = K by omega]; exact HN.out)
      obtain ⟨a, c, hv⟩ := HL.out.slice
      rw [hn] at hv
      rw [hv] at rv
      go_wp2_with fail
      go_roundg (K + 1 - (k + 1))
      case measure => omega
      case rel => exact ⟨k + 1, by go_num, by omega, rfl, rfl⟩
    · obtain ⟨f, rest, hfr⟩ : ∃ f rest, L k = f :: rest := by
        cases h : L k with
        | nil => exact absurd h hn
        | cons f rest => exact ⟨f, rest, rfl⟩
      have HFM : Hid (f ∈ L k) := Lib.hid (by rw [hfr]; simp)
      have HFR := Lib.hid hfr
      obtain ⟨g, cap, hv, hla⟩ : ∃ g cap, vs k = .slice (some ⟨g, 0, none⟩) (rest.length + 1) cap ∧ LAt wr g cap (L k) := by
        rcases HL.out with ⟨_, h⟩ | ⟨g, cap, h1, h2⟩
        · exact absurd h hn
        · exact ⟨g, cap, by rw [h1, hfr]; rfl, h2⟩
      rw [hv] at rv
      have rg : wr.cell? ⟨g, 0, none⟩ = some (.int .i64 (f : Int)) := hla.cell (j := 0) (by rw [hfr]; rfl)
      have lg := hla.lt
      have r0 := cell_of_ob HX0.out 0
      have r1 := cell_of_ob HX0.out 1
      have q0 := free_of_ob HX0.out 0
      have q1 := free_of_ob HX0.out 1
      simp only [List.getElem?_toArray, List.getElem?_cons_zero, List.getElem?_cons_succ] at r0 r1
      have lx := ob_lt HX0.out
      have hlen : (0 : Int) < ((rest.length + 1 : Nat) : Int) := by omega
      have hle : (0 : Int) ≤ ((rest.length + 1 : Nat) : Int) := by omega
      clear hla hv e1 hn hfr
      go_wp2_with fail
      have kS : Keep [xb] wr ((wr.setCell ⟨xb, 0, none⟩ (.int .i64 (f : Int))).setCell ⟨xb, 1, none⟩ (.int .i64 (k : Int))) := ((Keep.refl _ _).setCell (.inl (by simp)) _ _).setCell (.inl (by simp)) _ _
      have HX2 := Lib.hid (st_same (i := 1) (v := .int .i64 (k : Int)) (st_same (i := 0) (v := .int .i64 (f : Int)) HX0.out))
      have HB2 := Lib.hid ((show Bw w wr bd m L H F from ⟨F1, ⟨hm, vs, HW.out, HF.out⟩, HKG.out.1, HKG.out.2⟩).set HX0.out rfl rfl (by have := HXB.out; omega) kS)
      clear r0 r1 q0 q1 rv rg lg lb lx hlen hle HX0 kS HL
      generalize ((wr.setCell ⟨xb, 0, none⟩ (.int .i64 (f : Int))).setCell ⟨xb, 1, none⟩ (.int .i64 (k : Int))) = w2 at *
      obtain ⟨F2, hB2, hK2, hG2⟩ := HB2.out
      have hlL : (L k).length ≤ 1000 := by
        have h1 := len_le_left L k (by omega)
        have h2 := HS.out.lf
        have h3 := HS.out.le
        omega
      refine (bTake w2 bd m L H F2 hB2 f k (by omega) (HS.out.bi.srt k) hlL).mono ?_
      rintro _ w3 ⟨rfl, F3, hB3, hK3, hG3⟩
      rw [if_pos HFM.out] at hB3
      have hx2 : xb ∉ F2 := hB2.not (ob_kind HX2.out rfl rfl)
      have HX3 : Hid (ob w3 xb = some (.cells #[.int .i64 (f : Int), .int .i64 (k : Int)] 58 (0, 0))) := Lib.hid (hK3.kp HX2.out hx2)
      have HB3 := Lib.hid (Bw.next hK2 hG2 hB3 hK3 hG3)
      have HV0 := Lib.hid (HV.begin HS.out (f := f) (k := k) (by omega) HFM.out)
      have HFIN := Lib.hid (HS.out.alloc (f := f) (k := k) (by omega) HFM.out)
      generalize updL L k ((L k).erase f) = L1 at *
      generalize halve L1 f k = LF at *
      clear hB2 hK2 hG2 hlL hB3 hK3 hG3 hx2 HB2 HX2
      go_wp2_with fail
      go_loopg [] k (fun gn wr => ∃ (j : Nat) (Lj : LS), Bw w wr bd m Lj H F ∧ ob wr xb = some (.cells #[.int .i64 (f : Int), .int .i64 (j : Int)] 58 (0, 0)) ∧ HV Lj f j LF ∧ j ≤ k ∧ gn = j)
      case atStart => exact ⟨k, L1, HB3.out, HX3.out, HV0.out, Nat.le_refl _, rfl⟩
      case round =>
        clear HB3 HX3 HV0 HFM HFR HF HW HKG
        obtain ⟨j, Lj, hBj, hXj, hVj, hjk, hgj⟩ := hrel
        have HBj := Lib.hid hBj
        have HXj := Lib.hid hXj
        have HVj := Lib.hid hVj
        have r0 := cell_of_ob HXj.out 0
        have r1 := cell_of_ob HXj.out 1
        have q1 := free_of_ob HXj.out 1
        simp only [List.getElem?_toArray, List.getElem?_cons_zero, List.getElem?_cons_succ] at r0 r1
        have lx := ob_lt HXj.out
        clear hBj hXj hVj
        rcases Nat.eq_zero_or_pos j with h0 | h0
        · subst h0
          have hx0 : ¬ (0 : Int) < ((0 : Nat) : Int) := by omega
          go_wp2_with fail
          clear hx0 q1
          obtain ⟨F5, ⟨hm5, vs5, hW5, hF5⟩, hK5, hG5⟩ := HBj.out
          obtain ⟨w7, hrun, hM7, hK7⟩ := (hW5.mp.keep ((Keep.refl [] wr).drew) (by simp)).put f HFIN.out.2.1
          have hrun' : (Instr.mapUpdate 52 (.map (some hm5)) (.agg #[.int .i64 (f : Int), .int .i64 0]) (.bool true)).run Try.prog wr.drew = .ok () w7 := hrun
          have hne : xb ≠ hm5 := fun e => by
            obtain ⟨es, c, h1, _⟩ := hW5.mp
            rw [← e, HXj.out] at h1
            simp at h1
          have hfin : Lj = LF := HVj.out.fin
          have k7 : Keep [hm5] wr w7 := ((Keep.refl _ _).drew).trans hK7
          obtain ⟨hB7, hk7⟩ := hW5.setH hF5 k7 hM7
          have HB7 := Lib.hid (Bw.next hK5 hG5 hB7 hk7 (GF.refl _ _))
          have HX7 : Hid (ob w7 xb = some (.cells #[.int .i64 (f : Int), .int .i64 (0 : Int)] 58 (0, 0))) := Lib.hid (k7.kp HXj.out (by simpa using hne))
          have rb : wr.cell? ⟨bd, 10, none⟩ = some (.map (some hm5)) := blk_cell hW5.st (i := 10) (by omega)
          have lb := ob_lt hW5.st
          rw [hfin] at HB7
          have r1' : wr.cell? ⟨xb, 1, none⟩ = some (.int .i64 0) := r1
          clear r1 hrun hW5 hF5 hK5 hG5 hM7 hK7 hne hfin k7 hB7 hk7 HVj HBj
          go_region
          have x0 : w7.cell? ⟨xb, 0, none⟩ = some (.int .i64 (f : Int)) := cell_of_ob HX7.out 0
          have lx7 := ob_lt HX7.out
          clear hrun'
          go_wp2_with fail
          rw [Exit.noGoto_ret]
          go_ret2
          exact ⟨f, LF, rfl, HFIN.out.1, HFIN.out.2.1, HFIN.out.2.2.1, HFIN.out.2.2.2, HB7.out⟩
        · obtain ⟨i, rfl⟩ : ∃ i, j = i + 1 := ⟨j - 1, by omega⟩
          have hgt : (0 : Int) < ((i + 1 : Nat) : Int) := by omega
          have hwr : IntKind.i64.wrap (((i + 1 : Nat) : Int) - 1) = (i : Int) := by rw [IntWalk.i64_in _ (by omega)]; omega
          go_wp2_with fail
          have kS : Keep [xb] wr (wr.setCell ⟨xb, 1, none⟩ (.int .i64 (i : Int))) := (Keep.refl _ _).setCell (.inl (by simp)) _ _
          have HX2 : Hid (ob (wr.setCell ⟨xb, 1, none⟩ (.int .i64 (i : Int))) xb = some (.cells #[.int .i64 (f : Int), .int .i64 (i : Int)] 58 (0, 0))) := Lib.hid (st_same (i := 1) (v := .int .i64 (i : Int)) HXj.out)
          have HB2 := Lib.hid (HBj.out.set HXj.out rfl rfl (by have := HXB.out; omega) kS)
          clear kS r0 r1 q1 lx hgt hwr HXj HBj
          generalize (wr.setCell ⟨xb, 1, none⟩ (.int .i64 (i : Int))) = w4 at *
          have r0 := cell_of_ob HX2.out 0
          have r1 := cell_of_ob HX2.out 1
          simp only [List.getElem?_toArray, List.getElem?_cons_zero, List.getElem?_cons_succ] at r0 r1
          have lx := ob_lt HX2.out
          go_still_tail 10, (by kernel_rfl)
          have kd : Keep [] w4 w4.drew := (Keep.refl _ _).drew
          have HX5 := Lib.hid (kd.kp HX2.out (by simp))
          have HB5 := Lib.hid (HB2.out.new kd)
          clear r0 r1 lx HX2 HB2 kd
          change wpList _ _ _ _ _ w4.drew
          generalize w4.drew = w5 at *
          go_wp2_with fail
          obtain ⟨F5, hB5, hK5, hG5⟩ := HB5.out
          have hlL : (Lj i).length ≤ 1000 := by
            have h1 := len_le_left Lj i (by omega)
            have h2 := HVj.out.lf
            have h3 := Nat.two_pow_pos (i + 1)
            omega
          have hf256 : f < 1000 := by have := HFIN.out.2.2.2; have := HS.out.le; omega
          rw [w2f f i (by omega) hf256]
          refine (bPut w5 bd m Lj H F5 hB5 (f + 2 ^ i) i (by omega) (HVj.out.bi.srt i) hlL).mono ?_
          rintro _ w6 ⟨rfl, F6, hB6, hK6, hG6⟩
          have hx5 : xb ∉ F5 := hB5.not (ob_kind HX5.out rfl rfl)
          have HX6 := Lib.hid (hK6.kp HX5.out hx5)
          have HB6 := Lib.hid (Bw.next hK5 hG5 hB6 hK6 hG6)
          clear hB5 hK5 hG5 hlL hB6 hK6 hG6 hx5 HX5 HB5 hf256
          go_wp2_with fail
          go_roundg i
          case measure => omega
          case rel => exact ⟨i, _, HB6.out, HX6.out, HVj.out.step (by omega), by omega, rfl⟩
end Go.Proofs.Ytehmjjfgefopdaa
