import Derived.Test.YtfihnnijcaapkaaDoorVh
import Derived.Test.YtfihnnijcaapkaaDoorLibT
import Derived.Deep.LoopGhost
import Derived.Deep.QuietTactic
import Derived.BigQuiet
namespace Go.Proofs.YtfihnnijcaapkaaDoor
open Go.RowKit
set_option linter.unusedSimpArgs false
set_option linter.unusedVariables false
attribute [local go_sem] ob_alloc ob_drew ob_drewN ob_setCell ob_setBlock objSet_cells obMap_map obClock_map isMapI_map keyI_mk findI_nil findI_cons lookRes_some lookRes_none lookRes_some' lookRes_none' setBlock_alloc mapPut

def numE : Enc Nat 1 := ⟨fun i => [.int .i64 (i : Int)], fun _ => rfl, fun i u hu => by simp at hu; subst hu; rfl⟩
theorem numE_flat (L : List Nat) : numE.flat L = nums L := by
  induction L with
  | nil => rfl
  | cons a L ih =>
    simp only [Enc.flat, List.flatMap_cons, nums, List.map_cons] at ih ⊢
    rw [ih]; rfl
def RSet (w : World) (p : Nat) (S : Nat → Bool) : Prop := ob w p = some (.cells (blk (fun j => .bool (S j)) 256) 40 (0, 0))
theorem RSet.keep {L : List Nat} {w w' : World} {p : Nat} {S : Nat → Bool} (h : RSet w p S) (hk : Keep L w w') (hp : p ∉ L) : RSet w' p S := hk.kp h hp
theorem RSet.put {w : World} {p : Nat} {S : Nat → Bool} (h : RSet w p S) (n : Nat) (b : Bool) : RSet (w.setCell ⟨p, n, none⟩ (.bool b)) p (upS S n b) := by
  have := blk_store h n (.bool b)
  unfold RSet
  rw [this]
  congr 2
  refine blk_congr (fun j hj => ?_)
  unfold upd upS
  by_cases e : j = n <;> simp [e]
set_option maxRecDepth 100000 in
set_option maxHeartbeats 400000 in
theorem rPut (w : World) (p : Nat) (S : Nat → Bool) (h : RSet w p S) (n : Int) (b : Bool) :
    Calls Tryd.prog 12 #[.pointer (some ⟨p, 0, none⟩), .int .i64 n, .bool b] w fun e w' => e = .returned (.bool (inR n)) ∧ RSet w' p (putS S n b) ∧ Keep [p] w w' := by
  by_cases h0 : 0 ≤ n
  · by_cases h1 : n < 256
    · have hr : inR n = true := by unfold inR; simp; omega
      unfold putS
      rw [hr, if_pos rfl]
      obtain ⟨m, rfl⟩ := Int.eq_ofNat_of_zero_le h0
      have hm : m < 256 := by omega
      rw [Int.toNat_natCast]
      have hc := blk_cell h hm
      have hl := ob_lt h
      have hf := free_of_ob h m
      have HS := Lib.hid (h.put m b)
      have h1' : (m : Int) ≤ 255 := by omega
      clear h h1 hr
      go_enter Tryd.func12, Tryd.ntmps12
      go_wp2_with fail
      go_ret
      exact ⟨rfl, HS.out, (Keep.refl _ _).setCell (.inl (by simp)) _ _⟩
    · have hr : inR n = false := by unfold inR; simp; omega
      unfold putS
      rw [hr]
      have h1' : 255 < n := by omega
      have HH := Lib.hid h
      clear h hr
      go_enter Tryd.func12, Tryd.ntmps12
      go_wp2_with fail
      go_ret
      exact ⟨rfl, HH.out, Keep.refl _ _⟩
  · have hr : inR n = false := by unfold inR; simp; omega
    unfold putS
    rw [hr]
    have HH := Lib.hid h
    clear h hr
    go_enter Tryd.func12, Tryd.ntmps12
    go_wp2_with fail
    go_ret
    exact ⟨rfl, HH.out, Keep.refl _ _⟩
set_option maxRecDepth 100000 in
set_option maxHeartbeats 400000 in
theorem rHas (w : World) (p : Nat) (S : Nat → Bool) (h : RSet w p S) (n : Int) :
    Calls Tryd.prog 13 #[.pointer (some ⟨p, 0, none⟩), .int .i64 n] w fun e w' => e = .returned (.bool (hasS S n)) ∧ w' = w := by
  by_cases h0 : 0 ≤ n
  · by_cases h1 : n < 256
    · have hr : inR n = true := by unfold inR; simp; omega
      unfold hasS
      rw [hr, Bool.true_and]
      obtain ⟨m, rfl⟩ := Int.eq_ofNat_of_zero_le h0
      have hm : m < 256 := by omega
      rw [Int.toNat_natCast]
      have hc := blk_cell h hm
      generalize S m = s at *
      clear h h1 hr
      go_enter Tryd.func13, Tryd.ntmps13
      go_wp2_with fail
      go_ret
      exact ⟨rfl, rfl⟩
    · have hr : inR n = false := by unfold inR; simp; omega
      unfold hasS
      rw [hr]
      have h2' : ¬ n < 256 := by omega
      clear h hr
      go_enter Tryd.func13, Tryd.ntmps13
      go_wp2_with fail
      go_ret
      exact ⟨rfl, rfl⟩
  · have hr : inR n = false := by unfold inR; simp; omega
    unfold hasS
    rw [hr]
    clear h hr
    go_enter Tryd.func13, Tryd.ntmps13
    go_wp2_with fail
    go_ret
    exact ⟨rfl, rfl⟩
set_option maxRecDepth 100000 in
set_option maxHeartbeats 800000 in
theorem rSame (w : World) (B B' : Nat) (v u : Value) (xs : List Nat) (hv : RowE numE 3 w B v xs) (hu : RowE numE 3 w B' u xs) (hn : xs.length ≤ 1000) :
    Calls Tryd.prog 11 #[v, u] w fun e w' => e = .returned (.bool true) ∧ ∃ m, w' = w.drewN m := by
  have hV := Lib.hid hv
  have hU := Lib.hid hu
  obtain ⟨va, vc, rfl⟩ := hv.slice
  obtain ⟨ua, uc, rfl⟩ := hu.slice
  obtain ⟨n, hl⟩ : ∃ n, xs.length = n := ⟨_, rfl⟩
  rw [hl] at hV hU hn ⊢
  have HL := Lib.hid hl
  clear hv hu hl
  go_enter Tryd.func11, Tryd.ntmps11
  go_wp2_with fail
  go_loopg [5] n (fun gn i wr => ∃ k nd : Nat, i = .int .i64 k ∧ k ≤ n ∧ gn = n - k ∧ wr = w.drewN nd)
  case atStart => exact ⟨0, 0, rfl, by omega, by omega, rfl⟩
  case round =>
    obtain ⟨k, nd, rfl, hk, rfl, rfl⟩ := hrel
    by_cases hlt : k < n
    · have hx : xs[k]? = some (xs[k]'(by rw [HL.out]; exact hlt)) := List.getElem?_eq_getElem _
      generalize (xs[k]'(by rw [HL.out]; exact hlt)) = l at hx
      obtain ⟨g1, c1, e1, _, _, b1, b2, hc1⟩ := hV.out.get hx
      obtain ⟨g2, c2, e2, _, _, b3, b4, hc2⟩ := hU.out.get hx
      simp only [Value.slice.injEq, HL.out, true_and] at e1 e2
      obtain ⟨rfl, rfl⟩ := e1
      obtain ⟨rfl, rfl⟩ := e2
      have p0 := hc1 0 _ rfl
      have q0 := hc2 0 _ rfl
      rw [Nat.add_zero, Nat.mul_one] at p0 q0
      rw [HL.out] at b1 b3
      clear hc1 hc2 hx
      go_wp2_with fail
      go_quiet (fail)
      go_wp2_with fail
      go_roundg (n - (k + 1))
      case measure => omega
      case rel => exact ⟨k + 1, _, by go_num, by omega, rfl, rfl⟩
    · obtain rfl : k = n := by omega
      go_wp2
      go_ret
      exact ⟨rfl, _, rfl⟩
end Go.Proofs.YtfihnnijcaapkaaDoor
