import Derived.Test.YtfljhfggjbkomaaRows
import Derived.Test.YtfljhfggjbkomaaLib
import Derived.Test.YtfljhfggjbkomaaLibS
namespace Go.Proofs.Ytfljhfggjbkomaa
open Go.RowKit
set_option linter.unusedSimpArgs false
set_option linter.unusedVariables false
attribute [local go_sem] ob_alloc ob_drew ob_drewN ob_setCell ob_setBlock objSet_cells obMap_map obClock_map isMapI_map keyI_mk findI_nil findI_cons lookRes_some lookRes_none lookRes_some' lookRes_none' setBlock_alloc mapPut

/-- v is a slice of words, that reads as xs -/
def RdU (w : World) (v : Value) (xs : List Int) : Prop := Rd w v (u64s xs)
theorem RdU.pos {w : World} {v : Value} {xs : List Int} (h : RdU w v xs) (h0 : 0 < xs.length) :
    ∃ b off cap, v = .slice (some ⟨b, off, none⟩) xs.length cap ∧ xs.length ≤ cap ∧ cap ≤ maxLen ∧ ∀ i, i < xs.length → w.cell? ⟨b, off + i, none⟩ = some (.int .u64 (xs.getD i 0)) := by
  obtain ⟨b, off, cap, hv, h1, h2, h3⟩ := Rd.pos h (by rw [u64s_length]; exact h0)
  rw [u64s_length] at hv h1
  exact ⟨b, off, cap, hv, h1, h2, fun i hi => h3 i _ (by simp [u64s, hi])⟩
theorem RdU.zero {w : World} {v : Value} {xs : List Int} (h : RdU w v xs) (h0 : xs.length = 0) : ∃ ao cap, v = .slice ao 0 cap := by
  obtain ⟨a, cap, hv, _⟩ := Rd.len h
  rw [u64s_length, h0] at hv
  exact ⟨a, cap, hv⟩
theorem RdU.len {w : World} {v : Value} {xs : List Int} (h : RdU w v xs) : ∃ a cap, v = .slice a xs.length cap ∧ xs.length ≤ maxLen := by
  obtain ⟨a, cap, hv, h1, h2⟩ := Rd.len h
  rw [u64s_length] at hv h1
  exact ⟨a, cap, hv, by omega⟩

set_option maxRecDepth 100000 in
set_option maxHeartbeats 400000 in
theorem same_len (w : World) (a b : Option Addr) (n m c d : Nat) (h : n ≠ m) (hn : n ≤ maxLen) (hm : m ≤ maxLen) :
    Calls Try.prog 40 #[.slice a n c, .slice b m d] w fun o w' => o = .returned (.bool false) ∧ Keep [] w w' := by
  unfold maxLen at hn hm
  have h1 : ((n : Int) != (m : Int)) = true := by rw [bne_iff_ne]; omega
  go_enter Try.func40, Try.ntmps40
  go_wp2
  go_ret
  exact ⟨rfl, Keep.refl _ _⟩

set_option maxRecDepth 100000 in
set_option maxHeartbeats 400000 in
theorem same_zero (w : World) (a b : Option Addr) (c d : Nat) :
    Calls Try.prog 40 #[.slice a 0 c, .slice b 0 d] w fun o w' => o = .returned (.bool true) ∧ Keep [] w w' := by
  go_enter Try.func40, Try.ntmps40
  go_wp2
  go_loop [5] (fun i => i = .int .i64 0) (fun _ => 0)
  case atStart => rfl
  case round =>
    subst hrel
    go_wp2
    go_ret
    exact ⟨rfl, Keep.refl _ _⟩

set_option maxRecDepth 100000 in
set_option maxHeartbeats 400000 in
theorem same_pos (w : World) (a b offa offb ca cb n : Nat) (xs ys : List Int) (hn : n ≤ maxLen) (hx : xs.length = n) (hy : ys.length = n)
    (ha : ∀ i, i < n → w.cell? ⟨a, offa + i, none⟩ = some (.int .u64 (xs.getD i 0))) (hb : ∀ i, i < n → w.cell? ⟨b, offb + i, none⟩ = some (.int .u64 (ys.getD i 0))) :
    Calls Try.prog 40 #[.slice (some ⟨a, offa, none⟩) n ca, .slice (some ⟨b, offb, none⟩) n cb] w fun o w' => o = .returned (.bool (decide (xs = ys))) ∧ Keep [] w w' := by
  unfold maxLen at hn
  have h1 : ((n : Int) != (n : Int)) = false := by simp
  have HX := Lib.hid hx
  have HY := Lib.hid hy
  clear hx hy
  go_enter Try.func40, Try.ntmps40
  go_wp2
  go_loopw [5] (fun i wr => ∃ k : Nat, k ≤ n ∧ i = .int .i64 k ∧ (∀ j, j < k → xs.getD j 0 = ys.getD j 0) ∧ ∃ q, wr = w.drewN q) (fun i _ => n - (intOf i).toNat)
  case atStart => exact ⟨0, by omega, rfl, fun j hj => by omega, 0, rfl⟩
  case round =>
    obtain ⟨k, hk, rfl, hall, q, rfl⟩ := hrel
    have HA := Lib.hid hall
    clear hall
    by_cases hlt : k < n
    · have ha' : w.cell? ⟨a, offa + k, none⟩ = some (.int .u64 (xs.getD k 0)) := ha k hlt
      have hb' : w.cell? ⟨b, offb + k, none⟩ = some (.int .u64 (ys.getD k 0)) := hb k hlt
      generalize hxk : xs.getD k 0 = xk at ha'
      generalize hyk : ys.getD k 0 = yk at hb'
      have HXK := Lib.hid hxk
      have HYK := Lib.hid hyk
      clear hxk hyk ha hb
      by_cases hxy : xk = yk
      · have hne : (xk != yk) = false := by simpa using hxy
        have HE := Lib.hid hxy
        clear hxy
        go_wp2
        go_quiet (fail)
        go_wp2
        go_roundw
        case rel =>
          refine ⟨k + 1, by omega, by go_num, fun j hj => ?_, q + _, rfl⟩
          by_cases hjk : j = k
          · subst hjk; rw [HXK.out, HYK.out, HE.out]
          · exact HA.out j (by omega)
        case measure => simp [intOf]; omega
      · have hne : (xk != yk) = true := by simpa using hxy
        have HE := Lib.hid hxy
        clear hxy
        go_wp2
        go_quiet (fail)
        go_wp2
        go_ret
        refine ⟨ret_b ?_, by repeat (first | exact Keep.refl _ _ | refine Keep.drew ?_ | refine Keep.drewN ?_ _ | refine Keep.setCell ?_ (by first | (left; simp; done) | (right; simp; done) | (right; omega) | (right; simp; omega)) _ _ | refine Keep.setBlock ?_ (by first | (left; simp; done) | (right; simp; done) | (right; omega) | (right; simp; omega)) _ | refine Keep.alloc ?_ _ | refine Keep.andThen ?_ (by assumption) (by first | (simp; done) | (simp; omega) | (intro x hx; simp at hx; simp; omega)))⟩
        have : xs ≠ ys := fun e => HE.out (by rw [← HXK.out, ← HYK.out, e])
        simp [this]
    · go_wp2
      go_ret
      refine ⟨ret_b ?_, by repeat (first | exact Keep.refl _ _ | refine Keep.drew ?_ | refine Keep.drewN ?_ _ | refine Keep.setCell ?_ (by first | (left; simp; done) | (right; simp; done) | (right; omega) | (right; simp; omega)) _ _ | refine Keep.setBlock ?_ (by first | (left; simp; done) | (right; simp; done) | (right; omega) | (right; simp; omega)) _ | refine Keep.alloc ?_ _ | refine Keep.andThen ?_ (by assumption) (by first | (simp; done) | (simp; omega) | (intro x hx; simp at hx; simp; omega)))⟩
      have : xs = ys := by
        apply List.ext_getElem
        · rw [HX.out, HY.out]
        · intro i h2 h3
          have := HA.out i (by rw [HX.out] at h2; omega)
          simpa [h2, h3] using this
      simp [this]

/-- are they the same words? -/
theorem same_any (w : World) (va vb : Value) (xs ys : List Int) (ha : RdU w va xs) (hb : RdU w vb ys) :
    Calls Try.prog 40 #[va, vb] w fun o w' => o = .returned (.bool (decide (xs = ys))) ∧ Keep [] w w' := by
  by_cases hl : xs.length = ys.length
  · rcases Nat.eq_zero_or_pos xs.length with h0 | h0
    · obtain ⟨a, c, rfl⟩ := ha.zero h0
      obtain ⟨b, d, rfl⟩ := hb.zero (by omega)
      have : xs = ys := by rw [List.eq_nil_of_length_eq_zero h0, List.eq_nil_of_length_eq_zero (by omega : ys.length = 0)]
      rw [decide_eq_true this]
      exact same_zero w a b c d
    · obtain ⟨a, offa, ca, rfl, h1, h2, h3⟩ := ha.pos h0
      obtain ⟨b, offb, cb, rfl, h4, h5, h6⟩ := hb.pos (by omega)
      rw [← hl]
      exact same_pos w a b offa offb ca cb xs.length xs ys (by omega) rfl hl.symm h3 (fun i hi => h6 i (by omega))
  · have hne : xs ≠ ys := fun e => hl (by rw [e])
    rw [decide_eq_false hne]
    obtain ⟨a, c, rfl, h1⟩ := ha.len
    obtain ⟨b, d, rfl, h2⟩ := hb.len
    exact same_len w a b _ _ c d hl h1 h2
end Go.Proofs.Ytfljhfggjbkomaa
