import Derived.Test.YtpkpdfljhpieaaaPa
namespace Go.Proofs.Ytpkpdfljhpieaaa
open Go.RowKit
set_option linter.unusedSimpArgs false
set_option linter.unusedVariables false
attribute [local go_sem] ob_alloc ob_drew ob_drewN ob_setCell ob_setBlock objSet_cells obMap_map obClock_map isMapI_map keyI_mk findI_nil findI_cons lookRes_some lookRes_none lookRes_some' lookRes_none' setBlock_alloc mapPut

/-! ### the blocks: eight states, and registers -/
def pcF (S : Nat → Int) (R : Nat → Nat → Int) : Nat → Value := fun i => if i % 10 = 0 then .int .i64 (S (i / 10)) else .int .u64 (R (i / 10) (i % 10 - 1))
def rcF (S : Nat → Int) (R : Nat → Nat → Int) : Nat → Value := fun i => if i < 8 then .int .i64 (S i) else .int .u64 (R ((i - 8) / 9) ((i - 8) % 9))
def BAt (w : World) (p : Nat) (S : Nat → Int) (R : Nat → Nat → Int) : Prop := ob w p = some (.cells (blk (pcF S R) 80) 70 (0, 0))
def RAt (w : World) (p : Nat) (S : Nat → Int) (R : Nat → Nat → Int) : Prop := ob w p = some (.cells (blk (rcF S R) 80) 50 (0, 0))
def updG (R : Nat → Nat → Int) (q : Nat) (f : Nat → Int) : Nat → Nat → Int := fun j => if j = q then f else R j
theorem BAt.keep {w w' : World} {p : Nat} {S : Nat → Int} {R : Nat → Nat → Int} {L : List Nat} (h : BAt w p S R) (hk : Keep L w w') (hp : p ∉ L) : BAt w' p S R := hk.kp h hp
theorem RAt.keep {w w' : World} {p : Nat} {S : Nat → Int} {R : Nat → Nat → Int} {L : List Nat} (h : RAt w p S R) (hk : Keep L w w') (hp : p ∉ L) : RAt w' p S R := hk.kp h hp
section
variable {w : World} {p : Nat} {S : Nat → Int} {R : Nat → Nat → Int}
theorem BAt.state (h : BAt w p S R) (q : Nat) (hq : q < 8) : w.cell? ⟨p, q * 10, none⟩ = some (.int .i64 (S q)) := by
  have := blk_cell h (i := q * 10) (by omega)
  rw [this]; unfold pcF; rw [if_pos (by omega), show q * 10 / 10 = q by omega]
theorem RAt.state (h : RAt w p S R) (q : Nat) (hq : q < 8) : w.cell? ⟨p, q, none⟩ = some (.int .i64 (S q)) := by
  have := blk_cell h (i := q) (by omega)
  rw [this]; unfold rcF; rw [if_pos hq]
theorem BAt.regs (h : BAt w p S R) (q : Nat) (hq : q < 8) : w.rangeAt p (q * 10 + 1) (blk (vU (R q)) 9).toList :=
  blk_rangeF h _ 9 _ (by omega) (fun j hj => by
    unfold vU pcF; rw [if_neg (by omega), show (q * 10 + 1 + j) / 10 = q by omega, show (q * 10 + 1 + j) % 10 - 1 = j by omega])
theorem RAt.regs (h : RAt w p S R) (q : Nat) (hq : q < 8) : w.rangeAt p (8 + q * 9) (blk (vU (R q)) 9).toList :=
  blk_rangeF h _ 9 _ (by omega) (fun j hj => by
    unfold vU rcF; rw [if_neg (by omega), show (8 + q * 9 + j - 8) / 9 = q by omega, show (8 + q * 9 + j - 8) % 9 = j by omega])
theorem BAt.setS (h : BAt w p S R) (q : Nat) (hq : q < 8) (v : Int) : BAt (w.setCell ⟨p, q * 10, none⟩ (.int .i64 v)) p (updW S q v) R := by
  unfold BAt
  rw [blk_store h, blk_congr (g := pcF (updW S q v) R) (fun i hi => ?_)]
  unfold upd pcF updW
  by_cases e : i = q * 10
  · rw [if_pos e, if_pos (by omega), if_pos (by omega)]
  · rw [if_neg e]
    by_cases e2 : i % 10 = 0
    · rw [if_pos e2, if_pos e2, if_neg (by omega)]
    · rw [if_neg e2, if_neg e2]
theorem RAt.setS (h : RAt w p S R) (q : Nat) (hq : q < 8) (v : Int) : RAt (w.setCell ⟨p, q, none⟩ (.int .i64 v)) p (updW S q v) R := by
  unfold RAt
  rw [blk_store h, blk_congr (g := rcF (updW S q v) R) (fun i hi => ?_)]
  unfold upd rcF updW
  by_cases e : i = q
  · rw [if_pos e, if_pos (by omega), if_pos e]
  · rw [if_neg e]
    by_cases e2 : i < 8
    · rw [if_pos e2, if_pos e2, if_neg e]
    · rw [if_neg e2, if_neg e2]
theorem BAt.setR (h : BAt w p S R) (q : Nat) (hq : q < 8) (f : Nat → Int) : BAt (w.setCells p (q * 10 + 1) (blk (vU f) 9).toList) p S (updG R q f) :=
  blk_storeF h _ 9 _ (fun j hj => by
    unfold pcF updG vU
    by_cases e : q * 10 + 1 ≤ j ∧ j < q * 10 + 1 + 9
    · rw [if_pos e, if_neg (by omega), if_pos (by omega), show j % 10 - 1 = j - (q * 10 + 1) by omega]
    · rw [if_neg e]
      by_cases e2 : j % 10 = 0
      · rw [if_pos e2, if_pos e2]
      · rw [if_neg e2, if_neg e2, if_neg (by omega)])
theorem RAt.setR (h : RAt w p S R) (q : Nat) (hq : q < 8) (f : Nat → Int) : RAt (w.setCells p (8 + q * 9) (blk (vU f) 9).toList) p S (updG R q f) :=
  blk_storeF h _ 9 _ (fun j hj => by
    unfold rcF updG vU
    by_cases e : 8 + q * 9 ≤ j ∧ j < 8 + q * 9 + 9
    · rw [if_pos e, if_neg (by omega), if_pos (by omega), show (j - 8) % 9 = j - (8 + q * 9) by omega]
    · rw [if_neg e]
      by_cases e2 : j < 8
      · rw [if_pos e2, if_pos e2]
      · rw [if_neg e2, if_neg e2, if_neg (by omega)])
theorem BAt.there (h : BAt w p S R) (q : Nat) (hq : q < 8) : w.there p (q * 10 + 1) 9 := blk_there h (by omega)
theorem RAt.there (h : RAt w p S R) (q : Nat) (hq : q < 8) : w.there p (8 + q * 9) 9 := blk_there h (by omega)
end
theorem size47 : (Try.prog.info? 47).map (·.size) = some 9 := by kernel_rfl
theorem one9 (f : Nat → Int) : (blk (vU f) 9).all (·.oneCell') = true := blk_all _ _ (fun _ _ => rfl)
theorem len9 (f : Nat → Int) : (Try.prog.info? 47).map (·.size) = some (blk (vU f) 9).toList.length := by rw [size47, blk_len]
theorem siz9 (f : Nat → Int) : (Try.prog.info? 47).map (·.size) = some (blk (vU f) 9).size := by rw [size47, blk_size]

/-! ### New, of, State -/
set_option maxRecDepth 100000 in
set_option maxRecDepth 100000 in
set_option maxHeartbeats 400000 in
theorem pNew (w : World) : Calls Try.prog 27 #[] w fun o w' => o = .returned (.pointer (some ⟨w.heap.size, 0, none⟩)) ∧ BAt w' w.heap.size (fun _ => 0) (fun _ _ => 0) ∧ Keep [] w w' ∧ w.heap.size < w'.heap.size := by
  have hz : ∀ w, (zeroValue 70).run Try.prog w = .ok (.agg (blk (pcF (fun _ => 0) (fun _ _ => 0)) 80)) w := fun w => by kernel_rfl
  go_enter Try.func27, Try.ntmps27
  go_wp2
  go_ret
  exact ⟨rfl, al_new _ _ rfl, (Keep.refl _ _).alloc _, by simp⟩
def pOk (q : Int) : Bool := decide (0 ≤ q ∧ q ≤ 7)
theorem pOk_out {q : Int} (h : pOk q = true) : ∃ n : Nat, q = n ∧ n < 8 := by
  have h : 0 ≤ q ∧ q ≤ 7 := by unfold pOk at h; exact of_decide_eq_true h
  exact ⟨q.toNat, by omega, by omega⟩
theorem pOk_no {q : Int} (h : pOk q = false) : q < 0 ∨ (¬ q < 0 ∧ 7 < q) := by
  unfold pOk at h; simp at h; omega
set_option maxRecDepth 100000 in
set_option maxHeartbeats 400000 in
theorem pOf_yes (w : World) (p : Nat) (q : Nat) (hq : q < 8) : Calls Try.prog 44 #[.pointer (some ⟨p, 0, none⟩), .int .i64 q] w fun o w' => o = .returned (.pointer (some ⟨p, q * 10, none⟩)) ∧ w = w' := by
  go_enter Try.func44, Try.ntmps44
  go_wp2
  go_ret
  exact ⟨rfl, rfl⟩
set_option maxRecDepth 100000 in
set_option maxHeartbeats 400000 in
theorem pOf_no (w : World) (p : Nat) (q : Int) (hq : pOk q = false) : Calls Try.prog 44 #[.pointer (some ⟨p, 0, none⟩), .int .i64 q] w fun o w' => o = .returned (.pointer none) ∧ w = w' := by
  rcases pOk_no hq with h | ⟨h, h2⟩
  all_goals
    clear hq
    go_enter Try.func44, Try.ntmps44
    go_wp2
    go_ret
    exact ⟨rfl, rfl⟩
def stR (S : Nat → Int) (q : Int) : Int := if pOk q = true then S q.toNat else 0
set_option maxRecDepth 100000 in
set_option maxHeartbeats 400000 in
theorem pState (w : World) (p : Nat) (S : Nat → Int) (R : Nat → Nat → Int) (hB : BAt w p S R) (q : Int) : Calls Try.prog 34 #[.pointer (some ⟨p, 0, none⟩), .int .i64 q] w fun o w' => o = .returned (.int .i64 (stR S q)) ∧ w = w' := by
  unfold stR
  cases ho : pOk q with
  | true =>
    obtain ⟨n, rfl, hn⟩ := pOk_out ho
    have c0 := hB.state n hn
    simp only [if_true, Int.toNat_natCast]
    go_enter Try.func34, Try.ntmps34
    go_wp2_with fail
    refine (pOf_yes w p n hn).mono ?_
    rintro _ w1 ⟨rfl, rfl⟩
    clear hB ho
    go_wp2
    go_ret
    exact ⟨rfl, rfl⟩
  | false =>
    simp only [Bool.false_eq_true, if_false]
    go_enter Try.func34, Try.ntmps34
    go_wp2_with fail
    refine (pOf_no w p q ho).mono ?_
    rintro _ w1 ⟨rfl, rfl⟩
    clear hB ho
    go_wp2
    go_ret
    exact ⟨rfl, rfl⟩
set_option maxRecDepth 100000 in
set_option maxHeartbeats 400000 in
theorem rState (w : World) (p : Nat) (S : Nat → Int) (R : Nat → Nat → Int) (hB : RAt w p S R) (q : Int) : Calls Try.prog 35 #[.pointer (some ⟨p, 0, none⟩), .int .i64 q] w fun o w' => o = .returned (.int .i64 (stR S q)) ∧ w = w' := by
  unfold stR
  cases ho : pOk q with
  | true =>
    obtain ⟨n, rfl, hn⟩ := pOk_out ho
    have hn7 : n ≤ 7 := by omega
    have c0 := hB.state n hn
    simp only [if_true, Int.toNat_natCast]
    clear hB ho
    go_enter Try.func35, Try.ntmps35
    go_wp2
    go_ret
    exact ⟨rfl, rfl⟩
  | false =>
    simp only [Bool.false_eq_true, if_false]
    rcases pOk_no ho with h | ⟨h, h2⟩
    all_goals
      clear hB ho
      go_enter Try.func35, Try.ntmps35
      go_wp2
      go_ret
      exact ⟨rfl, rfl⟩
end Go.Proofs.Ytpkpdfljhpieaaa
