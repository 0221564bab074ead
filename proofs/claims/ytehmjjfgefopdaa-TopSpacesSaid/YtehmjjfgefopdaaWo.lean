import Derived.Test.YtehmjjfgefopdaaWn
import Derived.Test.YtehmjjfgefopdaaKc
namespace Go.Proofs.Ytehmjjfgefopdaa
open Go.RowKit
set_option linter.unusedSimpArgs false
set_option linter.unusedVariables false
attribute [local go_sem] ob_alloc ob_drew ob_drewN ob_setCell ob_setBlock objSet_cells obMap_map obClock_map isMapI_map keyI_mk findI_nil findI_cons lookRes_some lookRes_none lookRes_some' lookRes_none' setBlock_alloc mapPut

/-! ### Free of a frame -/
def scrE (M : Nat → Nat → EN) (f : Nat) : Nat → Nat → EN := fun f' p => if f' = f then eZ else M f' p
theorem wE_Z : wE eZ = 0 := by decide
theorem hasB_one {n f : Nat} (hf : f < n) : hasB n (f : Int) 1 = true := by unfold hasB; simp; omega
theorem MemE.scrub {w w' : World} {m g n : Nat} {M : Nat → Nat → EN} (h : MemE w m g n M) {f : Nat} (hf : f < n) (h' : MemAt w' m g n (scrubS n (sE M) f 1)) : MemE w' m g n (scrE M f) := by
  refine ⟨h'.congr (fun i _ => ?_), fun f' p => ?_⟩
  · unfold scrubS
    rw [if_pos (hasB_one hf)]
    unfold scr sE scrE
    simp only [Int.toNat_natCast, Int.toNat_one]
    by_cases e : i / 16 = f
    · rw [if_pos (by omega), if_pos e, wE_Z]; rfl
    · rw [if_neg (by omega), if_neg e]
  · unfold scrE
    split
    · decide
    · exact h.2 f' p
theorem MemE.gkind {w : World} {m g n : Nat} {M : Nat → Nat → EN} (h : MemE w m g n M) : kindB (ob w g) = false := ob_kind h.1.2.1 rfl rfl
theorem MemE.mkind {w : World} {m g n : Nat} {M : Nat → Nat → EN} (h : MemE w m g n M) : kindB (ob w m) = false := ob_kind h.1.1 rfl rfl
/-- memory and giver, behind a call -/
structure MW (w0 w : World) (bd m g n : Nat) (M : Nat → Nat → EN) (L : LS) (H F : List Nat) : Prop where
  me : MemE w m g n M
  ex : ∃ F', BudAt w bd m L H F' ∧ Keep (g :: F) w0 w ∧ GF w0 F F'
section
variable {w0 w w' : World} {bd m g n : Nat} {M M' : Nat → Nat → EN} {L L' : LS} {H H' F : List Nat}
theorem MW.init (hM : MemE w m g n M) (hB : BudAt w bd m L H F) : MW w w bd m g n M L H F := ⟨hM, F, hB, Keep.refl _ _, GF.refl _ _⟩
theorem MW.new (h : MW w0 w bd m g n M L H F) (k : Keep [] w w') : MW w0 w' bd m g n M L H F := by
  obtain ⟨F', h1, h3, h4⟩ := h.ex
  exact ⟨h.me.keep k (by simp) (by simp), F', h1.new k, h3.trans (k.mono (by simp)), h4⟩
theorem MW.size (h : MW w0 w bd m g n M L H F) : w0.heap.size ≤ w.heap.size := by
  obtain ⟨F', h1, h3, h4⟩ := h.ex
  exact h3.size
/-- memory alone was written -/
theorem MW.mem (h : MW w0 w bd m g n M L H F) (k : Keep [g] w w') (hM : MemE w' m g n M') : MW w0 w' bd m g n M' L H F := by
  obtain ⟨F', h1, h3, h4⟩ := h.ex
  have hg : g ∉ F' := h1.not h.me.gkind
  exact ⟨hM, F', h1.keep k (fun b hb hm => hg (by simp at hm; subst hm; exact hb)), h3.trans (k.mono (by simp)), h4⟩
theorem MemE.mne {w : World} {m g n : Nat} {M : Nat → Nat → EN} (h : MemE w m g n M) {b : Nat} {cs : Array Value} {t : TypeId} {f : Nat × Nat} (hb : ob w b = some (.cells cs t f)) (h1 : t ≠ 51) : b ≠ m := fun e => by
  subst e
  rw [h.1.1] at hb
  simp at hb
  exact h1 hb.2.1.symm
theorem MemE.gne {w : World} {m g n : Nat} {M : Nat → Nat → EN} (h : MemE w m g n M) {b : Nat} {cs : Array Value} {t : TypeId} {f : Nat × Nat} (hb : ob w b = some (.cells cs t f)) (h1 : t ≠ 107) : b ≠ g := fun e => by
  subst e
  rw [h.1.2.1] at hb
  simp at hb
  exact h1 hb.2.1.symm
/-- a box of another kind was written -/
theorem MW.set (h : MW w0 w bd m g n M L H F) {b : Nat} {cs : Array Value} {t : TypeId} {f : Nat × Nat} (hb : ob w b = some (.cells cs t f)) (h1 : (t == 55) = false) (h3 : (t == 3) = false) (h51 : t ≠ 51) (h107 : t ≠ 107) (hn : w0.heap.size ≤ b) (k : Keep [b] w w') : MW w0 w' bd m g n M L H F := by
  obtain ⟨F', h2, h5, h6⟩ := h.ex
  have : b ∉ F' := h2.not (ob_kind hb h1 h3)
  have hbm := h.me.mne hb h51
  have hbg := h.me.gne hb h107
  exact ⟨h.me.keep k (by simpa using hbm.symm) (by simpa using hbg.symm), F', h2.keep k (fun x hx hm => this (by simp at hm; subst hm; exact hx)), h5.andThen k (fun x hx => .inr (by simp at hx; omega)), h6⟩
/-- the giver changed -/
theorem MW.bud (hM : MemE w m g n M) {F' F'' : List Nat} (hB : BudAt w bd m L H F') (h3 : Keep (g :: F) w0 w) (h4 : GF w0 F F') (hB' : BudAt w' bd m L' H' F'') (hK' : Keep F' w w') (hG' : GF w F' F'') : MW w0 w' bd m g n M L' H' F :=
  ⟨hM.keep hK' (hB.not hM.mkind) (hB.not hM.gkind), F'', hB', h3.andThen hK' (fun x hx => by
    rcases h4 x hx with h | h
    · exact .inl (List.mem_cons_of_mem _ h)
    · exact .inr h), h4.trans h3.size hG'⟩
/-- a box that is none of the giver's stays -/
theorem MW.ob {b : Nat} {cs : Array Value} {t : TypeId} {f : Nat × Nat} {F' : List Nat} (hB : BudAt w bd m L H F') (hK' : Keep F' w w') (hb : ob w b = some (.cells cs t f)) (h1 : (t == 55) = false) (h3 : (t == 3) = false) : ob w' b = some (.cells cs t f) := hK'.kp hb (hB.not (ob_kind hb h1 h3))
end
structure MB (w0 w : World) (bd m g n R : Nat) (M : Nat → Nat → EN) (H F : List Nat) : Prop where
  ex : ∃ L, MW w0 w bd m g n M L H F ∧ BS n R L H
def FreeP (w : World) (bd m g N R : Nat) (M : Nat → Nat → EN) (H F : List Nat) (f : Nat) : Ending → World → Prop := fun o w' => ∃ e : Int, o = .returned (.int .i64 e) ∧ (f ∈ H → e = 0) ∧ MB w w' bd m g N R (if f ∈ H then scrE M f else M) (H.erase f) F
def XB (w : World) (xb : Nat) (a k : Nat) : Prop := ob w xb = some (.cells #[.int .i64 (a : Int), .int .i64 (k : Int)] 58 (0, 0))
set_option maxRecDepth 100000 in
set_option maxHeartbeats 2000000 in
theorem bFree (w : World) (bd m g N R : Nat) (M : Nat → Nat → EN) (L : LS) (H F : List Nat) (hM : MemE w m g N M) (hB : BudAt w bd m L H F) (hS : BS N R L H) (f : Nat) (hf : f < 256) :
    Calls Try.prog 26 #[.pointer (some ⟨bd, 0, none⟩), .int .i64 (f : Int), .int .i64 0] w (FreeP w bd m g N R M H F f) := by
  have k1 : Keep [] w (w.alloc (.cells #[.int .i64 (f : Int), .int .i64 0] 58)) := (Keep.refl _ _).alloc _
  have HX := Lib.hid (al_new w (.cells #[.int .i64 (f : Int), .int .i64 0] 58) rfl)
  have HM := Lib.hid (hM.keep k1 (by simp) (by simp))
  have HB := Lib.hid ((Bw.init hB).new k1)
  have HS := Lib.hid hS
  clear k1 hM hB hS
  go_enter Try.func26, Try.ntmps26
  go_wp2_with fail
  generalize w.alloc (.cells #[.int .i64 (f : Int), .int .i64 0] 58) = w1 at *
  obtain ⟨xb, hxb⟩ : ∃ xb, w.heap.size = xb := ⟨_, rfl⟩
  have HXB := Lib.hid hxb
  rw [hxb] at HX
  simp only [hxb]
  clear hxb
  obtain ⟨F1, ⟨hm, vs, hW, hF⟩, hK, hG⟩ := HB.out
  have HW := Lib.hid hW
  have HF := Lib.hid hF
  have HKG := Lib.hid (And.intro hK hG)
  have hlook := (hW.mp.keep ((Keep.refl [] w1).drew) (by simp)).look f
  have hlook' : (Instr.lookup 52 (.map (some hm)) (.agg #[.int .i64 (f : Int), .int .i64 0]) false).run Try.prog w1.drew = .ok (.bool (decide (f ∈ H))) w1.drew := hlook
  have r0 := cell_of_ob HX.out 0
  have r1 := cell_of_ob HX.out 1
  simp only [List.getElem?_toArray, List.getElem?_cons_zero, List.getElem?_cons_succ] at r0 r1
  have lx := ob_lt HX.out
  have rb : w1.cell? ⟨bd, 10, none⟩ = some (.map (some hm)) := blk_cell hW.st (i := 10) (by omega)
  have lb := ob_lt hW.st
  clear hW hF hK hG HB hlook
  go_region
  clear hlook' rb lb r0 r1 lx
  have kd : Keep [] w1 w1.drew := (Keep.refl _ _).drew
  have HX2 := Lib.hid (kd.kp HX.out (by simp))
  have HM2 := Lib.hid (HM.out.keep kd (by simp) (by simp))
  have HB2 := Lib.hid ((show Bw w w1 bd m L H F from ⟨F1, ⟨hm, vs, HW.out, HF.out⟩, HKG.out.1, HKG.out.2⟩).new kd)
  have HWd := Lib.hid (HW.out.keep HF.out kd (fun _ _ h => by cases h))
  clear kd HX HM HW
  generalize w1.drew = w2 at *
  by_cases hin : f ∈ H
  · simp only [decide_eq_true hin]
    go_wp2_with fail
    obtain ⟨w7, hrun, hM7, hK7⟩ := (HWd.out.mp.keep ((Keep.refl [] w2).drew) (by simp)).cut f hin 0
    have hrun' : (Builtin.delete_ #[52, 58] 0 #[.map (some hm), .agg #[.int .i64 (f : Int), .int .i64 0]]).run Try.prog w2.drew = .ok (.tuple #[]) w7 := hrun
    have r0 := cell_of_ob HX2.out 0
    have r1 := cell_of_ob HX2.out 1
    simp only [List.getElem?_toArray, List.getElem?_cons_zero, List.getElem?_cons_succ] at r0 r1
    have lx := ob_lt HX2.out
    have rb : w2.cell? ⟨bd, 10, none⟩ = some (.map (some hm)) := blk_cell HWd.out.st (i := 10) (by omega)
    have lb := ob_lt HWd.out.st
    go_region
    have k7 : Keep [hm] w2 w7 := ((Keep.refl _ _).drew).trans hK7
    obtain ⟨hB7, hk7⟩ := HWd.out.setH HF.out k7 hM7
    have hBd : BudAt w2 bd m L H F1 := ⟨hm, vs, HWd.out, HF.out⟩
    have HX7 := Lib.hid (MW.ob hBd hk7 HX2.out rfl rfl)
    obtain ⟨_, _, hKx, _⟩ := HB2.out
    have HW7 : Hid (MW w w7 bd m g N M L (H.erase f) F) := Lib.hid (MW.bud HM2.out hBd (hKx.mono (fun b hb => List.mem_cons_of_mem _ hb)) HKG.out.2 hB7 hk7 (GF.refl _ _))
    clear hrun hrun' r0 r1 lx rb lb hM7 hK7 k7 hB7 hk7 hBd hKx HX2 HM2 HB2 HWd HKG HF
    obtain ⟨F7, ⟨hm7, vs7, hW7, _⟩, _, _⟩ := HW7.out.ex
    have rb : w7.cell? ⟨bd, 0, none⟩ = some (.pointer (some ⟨m, 0, none⟩)) := blk_cell hW7.st (i := 0) (by omega)
    have lb := ob_lt hW7.st
    clear hW7
    go_wp2_with fail
    go_still_tail 7, (by kernel_rfl)
    have kd : Keep [] w7 w7.drew := (Keep.refl _ _).drew
    have HX8 := Lib.hid (kd.kp HX7.out (by simp))
    have HW8 := Lib.hid (HW7.out.new kd)
    clear kd HX7 HW7 rb lb
    change wpList _ _ _ _ _ w7.drew
    generalize w7.drew = w8 at *
    go_wp2_with fail
    have hfN := (HS.out.held hin).2
    refine (mScrub w8 m g N _ HW8.out.me.1 (f : Int) 1).mono ?_
    rintro _ w9 ⟨rfl, hM9, hK9⟩
    rw [hasB_one hfN]
    simp only [eR, if_true]
    have HX9 : Hid (ob w9 xb = some (.cells #[.int .i64 (f : Int), .int .i64 0] 58 (0, 0))) := Lib.hid (hK9.kp HX8.out (by simpa using HW8.out.me.gne HX8.out (by decide)))
    have HW9 := Lib.hid (HW8.out.mem hK9 (HW8.out.me.scrub hfN hM9))
    have HMS := Lib.hid (MS.init HS.out hf)
    clear hM9 hK9 HX8 HW8 hfN
    go_wp2_with fail
    go_loopg [] 8 (fun gn wr => ∃ (a k : Nat) (Lj : LS), MW w wr bd m g N (scrE M f) Lj (H.erase f) F ∧ ob wr xb = some (.cells #[.int .i64 (a : Int), .int .i64 (k : Int)] 58 (0, 0)) ∧ MS L f Lj a k ∧ gn = 8 - k)
    case atStart => exact ⟨f, 0, L, HW9.out, HX9.out, HMS.out, rfl⟩
    case round =>
      clear HX9 HW9 HMS
      obtain ⟨a, k, Lj, hWj, hXj, hMj, hgk⟩ := hrel
      have HWj := Lib.hid hWj
      have HXj := Lib.hid hXj
      have HMj := Lib.hid hMj
      have r0 := cell_of_ob HXj.out 0
      have r1 := cell_of_ob HXj.out 1
      simp only [List.getElem?_toArray, List.getElem?_cons_zero, List.getElem?_cons_succ] at r0 r1
      have lx := ob_lt HXj.out
      have hk9 := hMj.k8
      have ha := hMj.a256
      clear hWj hXj hMj
      by_cases hk : k < 8
      · have hk8 : decide ((k : Int) < 8) = true := by simp; omega
        have hp1 := pow_shl k (by omega)
        have hsh := Lib.hid (show IntKind.i64.wrap ((2 : Int) ^ k) = ((2 ^ k : Nat) : Int) by rw [IntWalk.i64_left]; exact w2p k (by omega))
        have hxor := Lib.hid (xorB hk ha HMj.out.al)
        have hnot := Lib.hid (notB hk ha HMj.out.al)
        go_wp2_with fail
        go_still_tail 14, (by kernel_rfl)
        have kd : Keep [] wr wr.drew := (Keep.refl _ _).drew
        have HX5 := Lib.hid (kd.kp HXj.out (by simp))
        have HW5 := Lib.hid (HWj.out.new kd)
        clear r0 r1 lx HXj HWj kd
        change wpList _ _ _ _ _ wr.drew
        generalize wr.drew = w5 at *
        go_wp2_with fail
        obtain ⟨F5, hB5, hK5, hG5⟩ := HW5.out.ex
        have hlL : (Lj k).length ≤ 1000 := by
          have h1 := len_le_left Lj k hk9
          have h2 := HMj.out.lf
          have h3 := HS.out.lf
          have h4 := HS.out.le
          have h5 := Nat.two_pow_pos k
          omega
        rw [w2p k hk9, hxor.out]
        refine (bTake w5 bd m Lj (H.erase f) F5 hB5 (bud a k) k hk9 (HMj.out.bi.srt k) hlL).mono ?_
        rintro _ w6 ⟨rfl, F6, hB6, hK6, hG6⟩
        have HX6 := Lib.hid (MW.ob hB5 hK6 HX5.out rfl rfl)
        have HW6 := Lib.hid (MW.bud HW5.out.me hB5 hK5 hG5 hB6 hK6 hG6)
        clear hB5 hK5 hG5 hlL hB6 hK6 hG6 HX5 HW5
        by_cases hy : bud a k ∈ Lj k
        · simp only [decide_eq_true hy]
          rw [if_pos hy] at HW6
          have r0 := cell_of_ob HX6.out 0
          have r1 := cell_of_ob HX6.out 1
          have q0 := free_of_ob HX6.out 0
          have q1 := free_of_ob HX6.out 1
          simp only [List.getElem?_toArray, List.getElem?_cons_zero, List.getElem?_cons_succ] at r0 r1
          have lx := ob_lt HX6.out
          go_wp2_with fail
          go_region
          rw [w2p k hk9, hnot.out]
          have kS : Keep [xb] w6 (w6.setCell ⟨xb, 0, none⟩ (.int .i64 (par a k : Nat))).drew := ((Keep.refl _ _).setCell (.inl (by simp)) _ _).drew
          have HX7 : Hid (ob (w6.setCell ⟨xb, 0, none⟩ (.int .i64 (par a k : Nat))).drew xb = some (.cells #[.int .i64 (par a k : Nat), .int .i64 (k : Int)] 58 (0, 0))) := Lib.hid (st_same (i := 0) (v := .int .i64 (par a k : Nat)) HX6.out)
          have HW7 := Lib.hid (HW6.out.set HX6.out rfl rfl (by decide) (by decide) (by have := HXB.out; omega) kS)
          have HM7 := Lib.hid (HMj.out.step hk hy)
          clear kS r0 r1 q0 q1 lx HX6 HW6
          generalize (w6.setCell ⟨xb, 0, none⟩ (.int .i64 (par a k : Nat))).drew = w7 at *
          generalize par a k = a' at *
          have r1 := cell_of_ob HX7.out 1
          have q1 := free_of_ob HX7.out 1
          simp only [List.getElem?_toArray, List.getElem?_cons_zero, List.getElem?_cons_succ] at r1
          have lx := ob_lt HX7.out
          have hwk : IntKind.i64.wrap ((k : Int) + 1) = ((k + 1 : Nat) : Int) := by rw [IntWalk.i64_in _ (by omega)]; rfl
          go_wp2_with fail
          have kS : Keep [xb] w7 (w7.setCell ⟨xb, 1, none⟩ (.int .i64 ((k : Int) + 1))) := (Keep.refl _ _).setCell (.inl (by simp)) _ _
          have HX8 : Hid (ob (w7.setCell ⟨xb, 1, none⟩ (.int .i64 ((k : Int) + 1))) xb = some (.cells #[.int .i64 (a' : Int), .int .i64 ((k : Int) + 1)] 58 (0, 0))) := Lib.hid (st_same (i := 1) (v := .int .i64 ((k : Int) + 1)) HX7.out)
          have HW8 := Lib.hid (HW7.out.set HX7.out rfl rfl (by decide) (by decide) (by have := HXB.out; omega) kS)
          go_roundg (8 - (k + 1))
          case measure => omega
          case rel => exact ⟨a', k + 1, _, HW8.out, HX8.out, HM7.out, rfl⟩
        · simp only [decide_eq_false hy]
          rw [if_neg hy] at HW6
          have r0 := cell_of_ob HX6.out 0
          have r1 := cell_of_ob HX6.out 1
          simp only [List.getElem?_toArray, List.getElem?_cons_zero, List.getElem?_cons_succ] at r0 r1
          have lx := ob_lt HX6.out
          have HZ := HW6
          go_wp2_with fail
          obtain ⟨F7, hB7, hK7, hG7⟩ := HZ.out.ex
          have hlL : (Lj k).length ≤ 1000 := by
            have h1 := len_le_left Lj k (by omega)
            have h2 := HMj.out.lf
            have h3 := HS.out.lf
            have h4 := HS.out.le
            have h5 := Nat.two_pow_pos k
            omega
          refine (bPut w6 bd m Lj (H.erase f) F7 hB7 a k (by omega) (HMj.out.bi.srt k) hlL).mono ?_
          rintro _ w8 ⟨rfl, F8, hB8, hK8, hG8⟩
          have HW8 := Lib.hid (MW.bud HZ.out.me hB7 hK7 hG7 hB8 hK8 hG8)
          have HBS := Lib.hid (HMj.out.last HS.out hin)
          go_wp2_with fail
          go_ret
          exact ⟨0, rfl, fun _ => rfl, _, by rw [if_pos hin]; exact HW8.out, HBS.out⟩
      · obtain rfl : k = 8 := by omega
        have r1' : wr.cell? ⟨xb, 1, none⟩ = some (.int .i64 8) := r1
        clear r1
        go_wp2_with fail
        go_quiet (fail)
        have kd : Keep [] wr (wr.drewN nq) := (Keep.refl _ _).drewN nq
        have HX6 : Hid (ob (wr.drewN nq) xb = some (.cells #[.int .i64 (a : Int), .int .i64 8] 58 (0, 0))) := Lib.hid (kd.kp HXj.out (by simp))
        have HZ := Lib.hid (HWj.out.new kd)
        clear r0 r1' lx HXj HWj kd
        generalize wr.drewN nq = w6 at *
        have r0 := cell_of_ob HX6.out 0
        have r1 := cell_of_ob HX6.out 1
        simp only [List.getElem?_toArray, List.getElem?_cons_zero, List.getElem?_cons_succ] at r0 r1
        have lx := ob_lt HX6.out
        go_wp2_with fail
        obtain ⟨F7, hB7, hK7, hG7⟩ := HZ.out.ex
        have hlL : (Lj 8).length ≤ 1000 := by
          have h1 := len_le_left Lj 8 (by omega)
          have h2 := HMj.out.lf
          have h3 := HS.out.lf
          have h4 := HS.out.le
          have h5 := Nat.two_pow_pos 8
          omega
        refine (bPut w6 bd m Lj (H.erase f) F7 hB7 a 8 (by omega) (HMj.out.bi.srt 8) hlL).mono ?_
        rintro _ w8 ⟨rfl, F8, hB8, hK8, hG8⟩
        have HW8 := Lib.hid (MW.bud HZ.out.me hB7 hK7 hG7 hB8 hK8 hG8)
        have HBS := Lib.hid (HMj.out.last HS.out hin)
        go_wp2_with fail
        go_ret
        exact ⟨0, rfl, fun _ => rfl, _, by rw [if_pos hin]; exact HW8.out, HBS.out⟩
  · simp only [decide_eq_false hin]
    go_wp2_with fail
    go_ret
    refine ⟨2, rfl, fun h => absurd h hin, L, ?_, by rw [List.erase_of_not_mem hin]; exact HS.out⟩
    obtain ⟨F', x1, x2, x3⟩ := HB2.out
    rw [if_neg hin, List.erase_of_not_mem hin]
    exact ⟨HM2.out, F', x1, x2.mono (fun b hb => List.mem_cons_of_mem _ hb), x3⟩
end Go.Proofs.Ytehmjjfgefopdaa
