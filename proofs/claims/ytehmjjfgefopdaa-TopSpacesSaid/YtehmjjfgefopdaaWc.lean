import Derived.Test.YtehmjjfgefopdaaWa
import Derived.Test.YtehmjjfgefopdaaWb
import Derived.BigQuiet
import Derived.Deep.RegionHeld3
import Derived.Deep.CutRange
import Derived.Deep.LoopGhost
import Derived.Deep.QuietTactic
import Derived.Deep.CutBlock
import Derived.Deep.DrawnRows
import Derived.WalkMore
namespace Go.Proofs.Ytehmjjfgefopdaa
open Go.RowKit
set_option linter.unusedSimpArgs false
set_option linter.unusedVariables false
attribute [local go_sem] ob_alloc ob_drew ob_drewN ob_setCell ob_setBlock objSet_cells obMap_map obClock_map isMapI_map keyI_mk findI_nil findI_cons lookRes_some lookRes_none lookRes_some' lookRes_none' setBlock_alloc mapPut

/-! ### entries -/
structure EN where
  v : Bool
  w : Bool
  t : Bool
  f : Nat
  deriving DecidableEq
def eZ : EN := ⟨false, false, false, 0⟩
def EN.val (e : EN) : Value := .agg #[.bool e.v, .bool e.w, .bool e.t, .int .i64 (e.f : Int)]
def okE (e : EN) : Bool := if e.v then decide (e.f < 256) && !(e.w && e.t) else decide (e = eZ)
def partE (e : EN) : Nat → Nat
  | 0 => e.v.toNat
  | 1 => e.w.toNat
  | 2 => e.t.toNat
  | _ => e.f
def frE : Nat → Nat
  | 0 => 0
  | 1 => 1
  | 2 => 2
  | _ => 8
def limE : Nat → Nat
  | 3 => 8
  | _ => 1
def wP (e : EN) : Nat → Nat
  | 0 => 0
  | k + 1 => 2 ^ frE k * partE e k + wP e k
def wE (e : EN) : Nat := wP e 4
theorem okE_f {e : EN} (h : okE e = true) : e.f < 256 := by
  unfold okE at h
  split at h
  · simp at h; exact h.1
  · simp at h; rw [h]; decide
theorem tn_le (b : Bool) : b.toNat ≤ 1 := by cases b <;> decide
theorem wP_lt {e : EN} (h : okE e = true) (k : Nat) (hk : k < 4) : wP e k < 2 ^ frE k := by
  have h1 := tn_le e.v
  have h2 := tn_le e.w
  have h3 := tn_le e.t
  match k, hk with
  | 0, _ => simp [wP, frE]
  | 1, _ => simp [wP, frE, partE]; omega
  | 2, _ => simp [wP, frE, partE]; omega
  | 3, _ => simp [wP, frE, partE]; omega
theorem part_lt {e : EN} (h : okE e = true) (k : Nat) (hk : k < 4) : partE e k < 2 ^ limE k := by
  have h1 := tn_le e.v
  have h2 := tn_le e.w
  have h3 := tn_le e.t
  have h4 := okE_f h
  match k, hk with
  | 0, _ => simp [limE, partE]; omega
  | 1, _ => simp [limE, partE]; omega
  | 2, _ => simp [limE, partE]; omega
  | 3, _ => simp [limE, partE]; omega
theorem wE_eq (e : EN) : wE e = e.v.toNat + 2 * e.w.toNat + 4 * e.t.toNat + 256 * e.f := by
  simp [wE, wP, frE, partE]; omega
theorem wE_lt {e : EN} (h : okE e = true) : wE e < 65536 := by
  have h1 := tn_le e.v
  have h2 := tn_le e.w
  have h3 := tn_le e.t
  have h4 := okE_f h
  rw [wE_eq]; omega
theorem wE_cut {e : EN} (h : okE e = true) (k : Nat) (hk : k < 4) : wE e / 2 ^ frE k % 2 ^ limE k = partE e k := by
  have h1 := tn_le e.v
  have h2 := tn_le e.w
  have h3 := tn_le e.t
  have h4 := okE_f h
  rw [wE_eq]
  match k, hk with
  | 0, _ => simp [limE, partE, frE]; omega
  | 1, _ => simp [limE, partE, frE]; omega
  | 2, _ => simp [limE, partE, frE]; omega
  | 3, _ => simp [limE, partE, frE]; omega

set_option maxRecDepth 100000 in
set_option maxHeartbeats 400000 in
theorem pFlag (b : Bool) (w : World) : Calls Try.prog 50 #[.bool b] w fun o w' => o = .returned (.int .u64 (b.toNat : Int)) ∧ w' = w := by
  cases b
  all_goals
    go_enter Try.func50, Try.ntmps50
    go_wp2
    go_ret
    exact ⟨rfl, rfl⟩
def fdN : Nat → Int
  | 0 => 0
  | 1 => 1
  | 2 => 1
  | 3 => 1
  | 4 => 2
  | 5 => 1
  | 6 => 8
  | _ => 8
def fdV : Value := .agg (blk (vI fdN) 8)
set_option maxRecDepth 100000 in
set_option maxRecDepth 100000 in
set_option maxHeartbeats 800000 in
theorem pFields (w : World) : Calls Try.prog 49 #[] w fun e w' => e = .returned fdV ∧ Keep [] w w' := by
  have hk : Keep [] w (w.alloc (.cells #[.int .i64 0, .int .i64 1, .int .i64 1, .int .i64 1, .int .i64 2, .int .i64 1, .int .i64 8, .int .i64 8] 99)) := (Keep.refl [] w).alloc _
  rw [show fdV = .agg #[.int .i64 0, .int .i64 1, .int .i64 1, .int .i64 1, .int .i64 2, .int .i64 1, .int .i64 8, .int .i64 8] from rfl]
  go_enter Try.func49, Try.ntmps49
  go_wp2_with fail
  have hrun : ∀ tmps : Array Value, tmps[0]?.getD undef = .pointer (some ⟨w.heap.size, 0, none⟩) → (results Try.f49 tmps).run Try.prog (w.alloc (.cells #[.int .i64 0, .int .i64 1, .int .i64 1, .int .i64 1, .int .i64 2, .int .i64 1, .int .i64 8, .int .i64 8] 99)) = .ok (.agg #[.int .i64 0, .int .i64 1, .int .i64 1, .int .i64 1, .int .i64 2, .int .i64 1, .int .i64 8, .int .i64 8]) (w.alloc (.cells #[.int .i64 0, .int .i64 1, .int .i64 1, .int .i64 1, .int .i64 2, .int .i64 1, .int .i64 8, .int .i64 8] 99)) := by
    intro tmps ht
    simp [results, Try.f49, ht]
    go_simp
  exact ⟨by trivial, _, hrun _ rfl, rfl, hk⟩
theorem size98 : (Try.prog.info? 98).map (·.size) = some 2 := by kernel_rfl
theorem fd_at (k : Nat) (hk : k < 4) : blk (fun j => vI fdN (k * 2 + j)) 2 = #[.int .i64 ((frE k : Nat) : Int), .int .i64 ((limE k : Nat) : Int)] := by
  have a : ∀ k, k < 4 → fdN (k * 2 + 0) = ((frE k : Nat) : Int) ∧ fdN (k * 2 + 1) = ((limE k : Nat) : Int) := by decide
  have h := a k hk
  unfold blk vI
  rw [show (List.range 2) = [0, 1] from rfl]
  simp only [List.map_cons, List.map_nil, h.1, h.2]
theorem idx99 (k : Nat) (hk : k < 4) (w : World) : (Instr.index 99 fdV (.int .i64 (k : Int))).run Try.prog w = .ok (.agg #[.int .i64 (frE k : Nat), .int .i64 (limE k : Nat)]) w := by
  obtain ⟨i, hi, hs⟩ := Option.map_eq_some_iff.1 size98
  have h := run_index_agg Try.underlying99 Try.underlying98 rfl hi hs (vI fdN) 8 rfl k hk w
  exact h.trans (congrArg (fun x => Result.ok (Value.agg x) w) (fd_at k hk))
theorem okF4 (k : Nat) (hk : k < 4) : okF ((frE k : Nat) : Int) ((limE k : Nat) : Int) = true := by
  match k, hk with
  | 0, _ | 1, _ | 2, _ | 3, _ => decide
theorem fl4 (k : Nat) (hk : k < 4) : frE k + limE k ≤ 64 := by
  match k, hk with
  | 0, _ | 1, _ | 2, _ | 3, _ => decide
set_option maxRecDepth 100000 in
set_option maxRecDepth 100000 in
set_option maxHeartbeats 800000 in
theorem pRight (w : World) (e : EN) (he : okE e = true) : Calls Try.prog 48 #[e.val] w fun o w' => o = .returned (.bool true) ∧ Keep [] w w' := by
  have hf := okE_f he
  obtain ⟨v, ww, t, f⟩ := e
  have hk : Keep [] w (w.alloc (.cells #[.bool v, .bool ww, .bool t, .int .i64 (f : Int)] 38)) := (Keep.refl [] w).alloc _
  have HK := Lib.hid hk
  clear hk
  unfold EN.val
  simp only at hf ⊢
  unfold okE at he
  cases v
  · have h0 : ww = false ∧ t = false ∧ f = 0 := by simpa [eZ] using he
    obtain ⟨rfl, rfl, rfl⟩ := h0
    clear he hf
    go_enter Try.func48, Try.ntmps48
    go_wp2_with fail
    go_ret
    exact ⟨rfl, HK.out⟩
  · have h0 : (ww && t) = false := by simp at he; cases ww <;> cases t <;> simp_all
    clear he
    cases ww
    · clear h0
      go_enter Try.func48, Try.ntmps48
      go_wp2_with fail
      go_ret
      exact ⟨rfl, HK.out⟩
    · have h1 : t = false := by simpa using h0
      subst h1
      clear h0
      go_enter Try.func48, Try.ntmps48
      go_wp2_with fail
      go_ret
      exact ⟨rfl, HK.out⟩
end Go.Proofs.Ytehmjjfgefopdaa
