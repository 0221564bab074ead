import Derived.RangeFuncNested
import Derived.RangeFuncBound
import Derived.RangeFuncCalls
import Derived.RangeFuncLeaves
import Derived.Shelf.Abstract
import Derived.Shelf.RegionOpen
import Derived.OwnWalkIn
import Derived.TacticsInMore
import Derived.LoopNIn
import Derived.LoopIn
import Derived.Test.YtfihnnijcaapkaaDoorVd
namespace Go.Proofs.YtfihnnijcaapkaaDoor
open Go.RowKit
set_option linter.unusedSimpArgs false
set_option linter.unusedVariables false
open Go.Shelf
attribute [local go_sem] Oper.semAt_some

/-- what a round keeps -/
def Kp (n0 Bn : Nat) (A B : World) : Prop := Below n0 A B ∧ ob B Bn = ob A Bn
theorem Kp.trans {n0 Bn : Nat} {A B C : World} (h : Kp n0 Bn A B) (k : Kp n0 Bn B C) : Kp n0 Bn A C := ⟨h.1.trans k.1, k.2.trans h.2⟩
theorem Kp.book {n0 Bn : Nat} {w : World} (hn : n0 ≤ w.heap.size) (hB : Bn < w.heap.size) (W : World) (l : Nat) (o o' : Obj) (hl : w.heap.size ≤ l) (h : W.heap[l]? = some o) (h1 : o.isCells = false) (h2 : o.isWalk = false) : Kp n0 Bn W (W.putObj l o') :=
  ⟨belowK_b hn W l o o' hl h h1 h2, World.putObj_heap_other (by omega)⟩
/-- what the iterator reads -/
structure ItEnv (n0 Bn p : Nat) (S : Nat → Bool) (W : World) : Prop where
  pn : p < n0
  z : 0 < n0
  ns : n0 ≤ W.heap.size
  box : ob W Bn = some (.cells #[.pointer (some ⟨p, 0, none⟩)] 25 (0, 0))
  set : IsSet W p S
  tab : TabAt W
theorem ItEnv.keep {n0 Bn p : Nat} {S : Nat → Bool} {A B : World} (h : ItEnv n0 Bn p S A) (hk : Kp n0 Bn A B) : ItEnv n0 Bn p S B :=
  ⟨h.pn, h.z, Nat.le_trans h.ns hk.1.size, hk.2.trans h.box, (hk.1.block p h.pn).trans h.set, fun i hi => by
    have := hk.1.block 0 h.z
    have e : ob B 0 = ob A 0 := this
    rw [cell_ob, e, ← cell_ob]
    exact h.tab i hi⟩
def valL (l : List (Fin 256)) : List Nat := l.map (·.val)
theorem valL_snoc (l : List (Fin 256)) (x : Fin 256) : valL (l ++ [x]) = valL l ++ [x.val] := by simp [valL]
theorem valL_len (l : List (Fin 256)) : (valL l).length = l.length := by simp [valL]

theorem memL_prefix (S : Nat → Bool) {a b : Nat} (h : a ≤ b) : memL S a <+: memL S b := by
  obtain ⟨d, rfl⟩ := Nat.le.dest h
  clear h
  induction d with
  | zero => exact List.prefix_refl _
  | succ d ih =>
    refine ih.trans ?_
    rw [← Nat.add_assoc, memL_succ]
    exact List.prefix_append _ _
theorem and_less (z : Nat) (h0 : z ≠ 0) (hz : z < 2 ^ 64) : bits .and .u64 (z : Int) ((z : Int) - 1) = ((z &&& (z - 1) : Nat) : Int) ∧ z &&& (z - 1) < z := by
  have e : (z : Int) - 1 = ((z - 1 : Nat) : Int) := by omega
  refine ⟨?_, ?_⟩
  · rw [e, u64_and_nat _ _ hz (by omega)]
  · have : z &&& (z - 1) ≤ z - 1 := Nat.and_le_right
    omega
set_option maxRecDepth 100000 in
set_option maxHeartbeats 2000000 in
theorem iter_in (n : Nat) (hn : 1 ≤ n) (l Bn n0 p : Nat) (S : Nat → Bool) (J Jx : List (Fin 256) → World → Prop)
    (hY : ∀ pre x W, J pre W → pre.length < 256 → YieldAt Fence.wide (n - 1) Tryd.prog l #[.int .i64 (x.val : Int)] W fun e W' =>
      (e = .returned (.bool true) ∧ J (pre ++ [x]) W' ∧ Kp n0 Bn W W') ∨ (e = .returned (.bool false) ∧ Jx (pre ++ [x]) W'))
    (W : World) (hE : ItEnv n0 Bn p S W) (h0 : J [] W) :
    CallsIn Fence.wide n Tryd.prog 21 #[.func (.yield l) #[] #[], .pointer (some ⟨Bn, 0, none⟩)] W fun e W' => (∃ v, e = .returned v) ∧
      ((∃ ys, valL ys = memL S 256 ∧ J ys W') ∨ (∃ pre, valL pre <+: memL S 256 ∧ Jx pre W')) := by
  refine callsIn_of_wp Tryd.func21 rfl trivial ?_ rfl
  simp only [Tryd.ntmps21, List.size_toArray, List.length_cons, List.length_nil, Nat.reduceAdd, Nat.reduceSub, Array.replicate_succ, Array.replicate_zero, List.push_toArray, List.append_toArray, List.nil_append, List.cons_append]
  gi_wp2
  have HE := Lib.hid hE
  clear hE
  gi_loopw [5] (fun s5 wr => ∃ (k : Nat) (pre : List (Fin 256)), s5 = .int .i64 k ∧ k ≤ 4 ∧ valL pre = memL S (k * 64) ∧ J pre wr ∧ ItEnv n0 Bn p S wr) (fun s5 wr => (4 - intOf s5).toNat)
  case atStart => exact ⟨0, [], rfl, by omega, rfl, h0, HE.out⟩
  case round =>
    obtain ⟨k, pre, rfl, hk, hpre, hJ, hE⟩ := hrel
    by_cases h4 : k < 4
    · have hb := cell_of_ob hE.box 0
      have hc := hE.set.cell h4
      have hw := wd_hiB S k
      rw [hw] at hc
      simp only [List.getElem?_toArray, List.getElem?_cons_zero] at hb
      have HE2 := Lib.hid (And.intro hE (And.intro hJ hpre))
      clear HE hE hJ hpre h0 hw
      have hd : decide ((k : Int) < 4) = true := by simp; omega
      gi_wp2
      clear hb hc
      gi_loopw [4] (fun s4 wr => ∃ (c : Nat) (pre : List (Fin 256)), s4 = .int .u64 (hiB S k c : Nat) ∧ k * 64 ≤ c ∧ c ≤ (k + 1) * 64 ∧ valL pre = memL S c ∧ J pre wr ∧ ItEnv n0 Bn p S wr) (fun s4 wr => (intOf s4).toNat)
      case atStart => exact ⟨k * 64, pre, rfl, by omega, by omega, HE2.out.2.2, HE2.out.2.1, HE2.out.1⟩
      case round =>
        clear HE2
        obtain ⟨c, pre, rfl, hc1, hc2, hpre, hJ, hE⟩ := hrel
        have hlt := hiB_lt S k c
        by_cases hz : hiB S k c = 0
        · have hov := word_over S k c hc1 hc2 hz
          have HE2 := Lib.hid (And.intro hE (And.intro hJ (hpre.trans hov.symm)))
          rw [hz]
          clear hE hJ hpre hov hlt hz
          gi_wp2
          go_roundw
          case rel => exact ⟨k + 1, pre, by simp, by omega, HE2.out.2.2, HE2.out.2.1, HE2.out.1⟩
          case measure => simp [intOf]; omega
        · obtain ⟨q, hq, q1, q2, q3, q4, q5, q6⟩ := next_round S k c hc1 hz
          have hcl : c ≤ 255 := by omega
          have hlen : pre.length < 256 := by
            rw [← valL_len, hpre]; have := memL_len S c; omega
          have hxb : k * 64 + q < 256 := by omega
          obtain ⟨fn, tmps, assign, body, hy, hR⟩ := hY pre ⟨k * 64 + q, hxb⟩ wr hJ hlen
          have hv : (((⟨k * 64 + q, hxb⟩ : Fin 256).val : Nat) : Int) = (k : Int) * 64 + (q : Int) := by simp
          rw [hv] at hy
          have htz := tz_any wr hE.tab (hiB S k c) q hlt hq hz q6
          obtain ⟨hand, hless⟩ := and_less _ hz hlt
          rw [q5] at hand hless
          have HE2 := Lib.hid (And.intro hE (And.intro hpre (And.intro q4 hless)))
          clear hE hJ hpre q1 q2 q4 q5 q6 hless
          generalize hiB S k c = z at *
          generalize hz' : hiB S k (k * 64 + q + 1) = z' at *
          have HZ := Lib.hid hz'
          clear hz'
          have hz0 : ((z : Nat) : Int) ≠ 0 := by omega
          gi_wp2_with (refine ⟨trivial, ?_⟩; gi_at_call 22; refine (callsIn_wide.2 htz).mono ?_; rintro _ _ ⟨rfl, rfl⟩)
          refine hR.mono ?_
          rintro e W3 (⟨rfl, hJ3, hk3⟩ | ⟨rfl, hJx3⟩)
          · gi_wp2
            go_roundw
            case rel =>
              exact ⟨k * 64 + q + 1, pre ++ [⟨k * 64 + q, hxb⟩], by rw [HZ.out], by omega, by omega, by rw [valL_snoc, HE2.out.2.1]; exact HE2.out.2.2.1.symm, hJ3, HE2.out.1.keep hk3⟩
            case measure => simp [intOf]; exact HE2.out.2.2.2
          · gi_wp2
            refine bodyPost_ret (results_none rfl _ _ _) rfl ?_
            exact ⟨⟨_, rfl⟩, .inr ⟨pre ++ [⟨k * 64 + q, hxb⟩], by rw [valL_snoc, HE2.out.2.1, ← HE2.out.2.2.1]; exact memL_prefix S hxb, hJx3⟩⟩
    · obtain rfl : k = 4 := by omega
      have HE2 := Lib.hid (And.intro hE (And.intro hJ hpre))
      clear HE hE hJ hpre
      gi_wp2
      go_end0
      exact ⟨⟨_, rfl⟩, .inl ⟨pre, HE2.out.2.2, HE2.out.2.1⟩⟩
theorem iter_stops (n : Nat) (hn : 1 ≤ n) (Bn n0 p : Nat) (S : Nat → Bool) (w : World) (hB : Bn < w.heap.size) (hE : ItEnv n0 Bn p S w) :
    SeqStopsK Fence.wide n Tryd.prog 21 #[.pointer (some ⟨Bn, 0, none⟩)] (fun x : Fin 256 => #[Value.int .i64 (x.val : Int)]) (Kp n0 Bn) (fun ys => valL ys = memL S 256) (fun pre => valL pre <+: memL S 256) 256 w := fun l J Jx W hW _ _ hY h0 =>
  iter_in n hn l Bn n0 p S J Jx hY W (hE.keep ⟨hW.mono hE.ns, hW.block Bn hB⟩) h0
end Go.Proofs.YtfihnnijcaapkaaDoor
