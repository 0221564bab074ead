import Derived.Test.YtfljhfggjbkomaaUf
namespace Go.Proofs.Ytfljhfggjbkomaa
open Go.RowKit
set_option linter.unusedSimpArgs false
set_option linter.unusedVariables false
attribute [local go_sem] ob_alloc ob_drew ob_drewN ob_setCell ob_setBlock objSet_cells obMap_map obClock_map isMapI_map keyI_mk findI_nil findI_cons lookRes_some lookRes_none lookRes_some' lookRes_none' setBlock_alloc mapPut

/-! ### the reference's log -/
def intE : Enc Int 1 := ⟨fun i => [.int .i64 i], fun _ => rfl, fun i u hu => by simp at hu; subst hu; rfl⟩
theorem info3 : (Try.prog.info? 3).map (fun i => (i.zero, i.size, i.bytes)) = some (some (.int .i64 0), 1, 8) := by kernel_rfl
def rO (C : Nat → Int) (Lv Sv opsv : Value) : Obj := .cells #[.int .i64 (C 0), .int .i64 (C 1), .int .i64 (C 2), .int .i64 (C 3), Lv, Sv, opsv] 34 (0, 0)
structure RLw (W0 w : World) (r : Nat) (opsv : Value) (C : Nat → Int) (L : List Int) (E : List (Int × Int)) (bl bs : Option Nat) : Prop where
  ex : ∃ Lv Sv, ob w r = some (rO C Lv Sv opsv) ∧ RowE intE 3 w W0.heap.size Lv L ∧ RowE evE 112 w W0.heap.size Sv E ∧ Lv.ownBlock = bl ∧ Sv.ownBlock = bs
  dl : ∀ b, bl = some b → b ≠ r
  ds : ∀ b, bs = some b → b ≠ r ∧ bl ≠ some b
  kp : Keep [] W0 w
  r0 : W0.heap.size ≤ r
section
variable {W0 w w' : World} {r : Nat} {opsv : Value} {C : Nat → Int} {L : List Int} {E : List (Int × Int)} {bl bs : Option Nat}
theorem RLw.new (h : RLw W0 w r opsv C L E bl bs) (hk : Keep [] w w') : RLw W0 w' r opsv C L E bl bs := by
  obtain ⟨Lv, Sv, h1, h2, h3, h4, h5⟩ := h.ex
  exact ⟨⟨Lv, Sv, hk.kp h1 (by simp), h2.keep hk (by simp), h3.keep hk (by simp), h4, h5⟩, h.dl, h.ds, h.kp.trans hk, h.r0⟩
theorem RLw.lt (h : RLw W0 w r opsv C L E bl bs) : r < w.heap.size := by obtain ⟨Lv, Sv, h1, _⟩ := h.ex; exact ob_lt h1
theorem ro_cell {C : Nat → Int} {Lv Sv opsv : Value} (h : ob w r = some (rO C Lv Sv opsv)) {q : Nat} (hq : q < 4) : w.cell? ⟨r, q, none⟩ = some (.int .i64 (C q)) := by
  rw [cell_of_ob h]
  match q, hq with
  | 0, _ => rfl
  | 1, _ => rfl
  | 2, _ => rfl
  | 3, _ => rfl
theorem ro_set {C : Nat → Int} {Lv Sv opsv : Value} (h : ob w r = some (rO C Lv Sv opsv)) {q : Nat} (hq : q < 4) (x : Int) : ob (w.setCell ⟨r, q, none⟩ (.int .i64 x)) r = some (rO (updC C q x) Lv Sv opsv) := by
  rw [ob_setCell, if_pos rfl, h]
  match q, hq with
  | 0, _ => rfl
  | 1, _ => rfl
  | 2, _ => rfl
  | 3, _ => rfl
theorem RLw.put (h : RLw W0 w r opsv C L E bl bs) {q : Nat} (hq : q < 4) (x : Int) : RLw W0 (w.setCell ⟨r, q, none⟩ (.int .i64 x)) r opsv (updC C q x) L E bl bs := by
  obtain ⟨Lv, Sv, h1, h2, h3, h4, h5⟩ := h.ex
  have hk : Keep [r] w (w.setCell ⟨r, q, none⟩ (.int .i64 x)) := (Keep.refl _ _).setCell (.inl (by simp)) q _
  exact ⟨⟨Lv, Sv, ro_set h1 hq x, h2.keep hk (fun b hb => by simp; exact h.dl b (h4 ▸ hb)), h3.keep hk (fun b hb => by simp; exact (h.ds b (h5 ▸ hb)).1), h4, h5⟩, h.dl, h.ds, h.kp.andThen hk (by intro y hy; simp at hy; subst hy; exact .inr h.r0), h.r0⟩
theorem RLw.seen (h : RLw W0 w r opsv C L E bl bs) (e : Int × Int) (hE : E.length ≤ 100000) :
    ∃ va vc va' vc' w' bs', w.cell? ⟨r, 5, none⟩ = some (.slice va E.length vc) ∧ (∀ ty, (Builtin.append_ #[28, 28] ty #[.slice va E.length vc, .slice (some ⟨w.heap.size, 0, none⟩) 1 1]).run Try.prog (w.alloc (.cells #[.int .i64 e.1, .int .i64 e.2] 112)) = .ok (.slice va' (E.length + 1) vc') w') ∧
      RLw W0 (w'.setCell ⟨r, 5, none⟩ (.slice va' (E.length + 1) vc')) r opsv C L (E ++ [e]) bl bs' ∧ Keep (r :: bs.toList) w (w'.setCell ⟨r, 5, none⟩ (.slice va' (E.length + 1) vc')) ∧ (bs' = bs ∨ ∃ b, bs' = some b ∧ w.heap.size ≤ b) ∧
      w'.frozen? ⟨r, 5, none⟩ = false ∧ (∃ x, w'.cell? ⟨r, 5, none⟩ = some x) ∧ r < w.heap.size := by
  obtain ⟨Lv, Sv, h1, h2, h3, h4, h5⟩ := h.ex
  obtain ⟨va, vc, rfl⟩ := h3.slice
  have hb := al_new w (.cells #[.int .i64 e.1, .int .i64 e.2] 112) rfl
  have kA : Keep [] w (w.alloc (.cells #[.int .i64 e.1, .int .i64 e.2] 112)) := (Keep.refl _ _).alloc _
  obtain ⟨va', vc', w', g1, g2, g3, g4⟩ := (h3.keep kA (by simp)).push (P := Try.prog) Try.underlying28 info112 rfl (by omega) e hb 1 (by omega) (by omega) (by have := h.kp.size; simp; omega)
  rw [h5] at g3 g4
  have kB : Keep bs.toList w w' := (kA.mono (by simp)).trans g3
  have hl := ob_lt h1
  have o1 := kB.kp h1 (fun hm => by simp only [Option.mem_toList] at hm; exact (h.ds r hm).1 rfl)
  have hk : Keep [r] w' (w'.setCell ⟨r, 5, none⟩ (.slice va' (E.length + 1) vc')) := (Keep.refl _ _).setCell (.inl (by simp)) 5 _
  have hnew : ∀ b, (Value.slice va' (E.length + 1) vc').ownBlock = some b → b ≠ r ∧ bl ≠ some b := by
    intro b hb
    rcases g4 with g4 | g4
    · exact h.ds b (g4.symm.trans hb)
    · rw [g4] at hb
      simp at hb
      subst hb
      refine ⟨by omega, fun e => ?_⟩
      have := ownBlock_lt h2 (h4.trans e)
      omega
  have kF : Keep (r :: bs.toList) w (w'.setCell ⟨r, 5, none⟩ (.slice va' (E.length + 1) vc')) := (kB.mono (fun x hx => List.mem_cons_of_mem _ hx)).trans (hk.mono (fun x hx => by simp at hx; subst hx; exact .head _))
  refine ⟨va, vc, va', vc', w', _, by rw [cell_of_ob h1]; rfl, g1, ⟨⟨Lv, _, (st_same o1).trans rfl, ?_, g2.keep hk (fun b hb => by simp; exact (hnew b hb).1), h4, rfl⟩, h.dl, hnew, ?_, h.r0⟩, kF, ?_, free_of_ob o1 5, ⟨_, cell_of_ob o1 5⟩, hl⟩
  · refine h2.keep kF (fun b hb hm => ?_)
    rcases List.mem_cons.1 hm with rfl | hm
    · exact h.dl _ (h4 ▸ hb) rfl
    · simp only [Option.mem_toList] at hm
      exact (h.ds b hm).2 (h4.symm.trans hb)
  · refine h.kp.andThen kF (fun y hy => ?_)
    rcases List.mem_cons.1 hy with rfl | hy
    · exact .inr h.r0
    · simp only [Option.mem_toList] at hy
      exact .inr (ownBlock_ge h3 (h5.trans hy))
  · rcases g4 with g4 | g4
    · exact .inl g4
    · exact .inr ⟨_, g4, by simp⟩
theorem intE_flat (L : List Int) : intE.flat L = L.map (Value.int .i64) := by
  induction L with
  | nil => rfl
  | cons a L ih =>
    simp only [Enc.flat, List.flatMap_cons, List.map_cons] at ih ⊢
    rw [ih]; rfl
theorem ints_one {L : List Int} : ∀ x ∈ L.map (Value.int .i64), x.oneCell' = true := by
  intro x hx
  simp only [List.mem_map] at hx
  obtain ⟨n, _, rfl⟩ := hx
  rfl
theorem RLw.rdL (h : RLw W0 w r opsv C L E bl bs) : ∃ Lv Sv, ob w r = some (rO C Lv Sv opsv) ∧ Rd w Lv (L.map (Value.int .i64)) := by
  obtain ⟨Lv, Sv, h1, h2, h3, h4, h5⟩ := h.ex
  refine ⟨Lv, Sv, h1, ?_⟩
  have := Rd.own (show w.ownsRow W0.heap.size 3 1 Lv L.length (intE.flat L) from h2)
  rw [intE_flat] at this
  exact this
theorem RLw.push (h : RLw W0 w r opsv C L E bl bs) (i : Int) (hL : L.length ≤ 1000) :
    ∃ Lv va vc va' vc' w2 w4, w.cell? ⟨r, 4, none⟩ = some Lv ∧ (Builtin.append_ #[32, 32] 32 #[.slice (some ⟨w.heap.size, 0, none⟩) 0 0, Lv]).run Try.prog (w.alloc (.cells #[] 3)) = .ok (.slice va L.length vc) w2 ∧
      (Builtin.append_ #[32, 32] 32 #[.slice va L.length vc, .slice (some ⟨w2.heap.size, 0, none⟩) 1 1]).run Try.prog (w2.alloc (.cells #[.int .i64 i] 3)) = .ok (.slice va' (L.length + 1) vc') w4 ∧
      (∃ bl', RLw W0 (w4.setCell ⟨r, 4, none⟩ (.slice va' (L.length + 1) vc')) r opsv C (L ++ [i]) E bl' bs ∧ (bl' = none ∨ ∃ b, bl' = some b ∧ w.heap.size ≤ b)) ∧ Keep [r] w (w4.setCell ⟨r, 4, none⟩ (.slice va' (L.length + 1) vc')) ∧
      w4.frozen? ⟨r, 4, none⟩ = false ∧ (∃ x, w4.cell? ⟨r, 4, none⟩ = some x) ∧ r < w.heap.size := by
  obtain ⟨Lv, Sv, h1, h2, h3, h4, h5⟩ := h.ex
  have hrd := Rd.own (show w.ownsRow W0.heap.size 3 1 Lv L.length (intE.flat L) from h2)
  rw [intE_flat] at hrd
  have hl := ob_lt h1
  have kA : Keep [] w (w.alloc (.cells #[] 3)) := (Keep.refl _ _).alloc _
  obtain ⟨va, vc, w2, r1, o2, g2⟩ := append_rd (P := Try.prog) Try.underlying32 info3 rfl _ (owns_empty w (base := w.heap.size) (Nat.le_refl _) 3 1) (hrd.keep kA (by simp)) ints_one (by rw [List.length_map]; unfold maxLen; omega) (by rw [List.length_map]; omega) (by simp) 32
  rw [Nat.zero_add, List.length_map] at r1 o2
  rw [List.nil_append] at o2
  have k2 : Keep [] w w2 := kA.andThen (Keep.ofGrown g2) (by simp [Value.ownBlock])
  have kB : Keep [] w2 (w2.alloc (.cells #[.int .i64 i] 3)) := (Keep.refl _ _).alloc _
  have rC : Rd (w2.alloc (.cells #[.int .i64 i] 3)) (.slice (some ⟨w2.heap.size, 0, none⟩) 1 1) [.int .i64 i] := Rd.row (al_new w2 (.cells #[.int .i64 i] 3) rfl) rfl (by omega) (by unfold maxLen; omega) rfl
  obtain ⟨va', vc', w4, r2, o4, g4⟩ := append_rd (P := Try.prog) Try.underlying32 info3 rfl _ (owns_keep o2 kB (by simp)) rC (by simp; rfl) (by simp; unfold maxLen; omega) (by simp; omega) (by have := k2.size; simp; omega) 32
  simp only [List.length_cons, List.length_nil, Nat.zero_add] at r2 o4
  have k4 : Keep [] w w4 := (k2.trans kB).andThen (Keep.ofGrown g4) (by intro x hx; simp only [Option.mem_toList] at hx; exact .inr (ownBlock_ge o2 hx))
  have o1 := k4.kp h1 (by simp)
  have hk : Keep [r] w4 (w4.setCell ⟨r, 4, none⟩ (.slice va' (L.length + 1) vc')) := (Keep.refl _ _).setCell (.inl (by simp)) 4 _
  have kF : Keep [r] w (w4.setCell ⟨r, 4, none⟩ (.slice va' (L.length + 1) vc')) := (k4.mono (by simp)).trans hk
  have o5 := owns_keep o4 hk (fun b hb hm => by have := ownBlock_ge o4 hb; simp at hm; omega)
  have hrow : RowE intE 3 (w4.setCell ⟨r, 4, none⟩ (.slice va' (L.length + 1) vc')) W0.heap.size (.slice va' (L.length + 1) vc') (L ++ [i]) := by
    unfold RowE
    rw [intE_flat, List.map_append, List.length_append]
    exact ⟨o5.1, o5.2.imp id (fun ⟨g, cap, cur, e1, e2, e3⟩ => ⟨g, cap, cur, e1, by have := h.kp.size; omega, e3⟩)⟩
  refine ⟨Lv, va, vc, va', vc', w2, w4, by rw [cell_of_ob h1]; rfl, r1, r2, ⟨_, ⟨⟨_, Sv, (st_same o1).trans rfl, hrow, h3.keep kF (fun b hb => by simp; exact (h.ds b (h5 ▸ hb)).1), rfl, h5⟩, fun b hb => ?_, fun b hb => ⟨(h.ds b hb).1, fun e => ?_⟩, h.kp.andThen kF (by intro y hy; simp at hy; subst hy; exact .inr h.r0), h.r0⟩, ?_⟩, kF, free_of_ob o1 4, ⟨_, cell_of_ob o1 4⟩, hl⟩
  · have := ownBlock_ge o4 hb; omega
  · have g1 := ownBlock_ge o4 e
    have g2 := ownBlock_lt h3 (h5.trans hb)
    omega
  · cases hv : (Value.slice va' (L.length + 1) vc').ownBlock with
    | none => exact .inl rfl
    | some b => exact .inr ⟨b, rfl, ownBlock_ge o4 hv⟩
end
end Go.Proofs.Ytfljhfggjbkomaa
