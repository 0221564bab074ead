import Derived.Test.YtehmjjfgefopdaaWj
import Derived.Test.YtehmjjfgefopdaaWk
import Derived.Test.YtehmjjfgefopdaaKb
import Derived.StillTailTactics
namespace Go.Proofs.Ytehmjjfgefopdaa
open Go.RowKit
set_option linter.unusedSimpArgs false
set_option linter.unusedVariables false
attribute [local go_sem] ob_alloc ob_drew ob_drewN ob_setCell ob_setBlock objSet_cells obMap_map obClock_map isMapI_map keyI_mk findI_nil findI_cons lookRes_some lookRes_none lookRes_some' lookRes_none' setBlock_alloc mapPut

/-! ### the frames' giver, in memory -/
def bC (m hm : Nat) (vs : Nat → Value) : Nat → Value := fun i => if i = 0 then .pointer (some ⟨m, 0, none⟩) else if i = 10 then .map (some hm) else vs (i - 1)
/-- what its own blocks may be -/
def kindB : Option Obj → Bool
  | some (.cells _ t (0, 0)) => t == 55 || t == 3
  | some (.map _ _) => true
  | _ => false
structure BudW (w : World) (bd m hm : Nat) (vs : Nat → Value) (L : LS) (H : List Nat) : Prop where
  st : ob w bd = some (.cells (blk (bC m hm vs) 11) 55 (0, 0))
  ro : ∀ k, k < 9 → LRow w (vs k) (L k)
  df : ∀ j k, j < 9 → k < 9 → j ≠ k → ∀ b, (vs j).ownBlock = some b → (vs k).ownBlock ≠ some b
  mp : MapB w hm H
def FpB (bd hm : Nat) (vs : Nat → Value) (F : List Nat) : Prop := ∀ b, b ∈ F ↔ (b = bd ∨ b = hm ∨ ∃ k, k < 9 ∧ (vs k).ownBlock = some b)
def BudAt (w : World) (bd m : Nat) (L : LS) (H : List Nat) (F : List Nat) : Prop := ∃ hm vs, BudW w bd m hm vs L H ∧ FpB bd hm vs F
/-- the blocks that were its own, and new ones -/
def GF (w : World) (F F' : List Nat) : Prop := ∀ b, b ∈ F' → b ∈ F ∨ w.heap.size ≤ b
theorem GF.refl (w : World) (F : List Nat) : GF w F F := fun b h => .inl h
theorem GF.trans {w w' : World} {F F' F'' : List Nat} (h : GF w F F') (hs : w.heap.size ≤ w'.heap.size) (h' : GF w' F' F'') : GF w F F'' := fun b hb => by
  rcases h' b hb with h1 | h1
  · exact h b h1
  · exact .inr (by omega)
theorem GF.not {w : World} {F F' : List Nat} (h : GF w F F') {b : Nat} (hb : b ∉ F) (hl : b < w.heap.size) : b ∉ F' := fun hm => by
  rcases h b hm with h1 | h1
  · exact hb h1
  · omega
theorem GF.keep {w0 w w' : World} {S F F' : List Nat} (h : Keep (S ++ F) w0 w) (hg : GF w0 F F') (k : Keep (S ++ F') w w') : Keep (S ++ F) w0 w' :=
  h.andThen k (fun x hx => by
    rcases List.mem_append.1 hx with h1 | h1
    · exact .inl (List.mem_append_left _ h1)
    · rcases hg x h1 with h2 | h2
      · exact .inl (List.mem_append_right _ h2)
      · exact .inr h2)
theorem LRow.ob {w : World} {v : Value} {xs : List Nat} (h : LRow w v xs) {b : Nat} (hb : v.ownBlock = some b) : ∃ cs, ob w b = some (.cells cs 3 (0, 0)) := by
  rcases h with ⟨rfl, _⟩ | ⟨g, cap, rfl, f, h, _⟩
  · cases hb
  · cases hb; exact ⟨_, h⟩
section
variable {w w' : World} {bd m hm : Nat} {vs : Nat → Value} {L : LS} {H F : List Nat}
theorem BudW.kind (h : BudW w bd m hm vs L H) (hF : FpB bd hm vs F) {b : Nat} (hb : b ∈ F) : kindB (ob w b) = true := by
  rcases (hF b).1 hb with rfl | rfl | ⟨k, hk, hv⟩
  · rw [h.st]; rfl
  · obtain ⟨es, c, h1, _⟩ := h.mp
    rw [h1]; rfl
  · obtain ⟨cs, h1⟩ := (h.ro k hk).ob hv
    rw [h1]; rfl
theorem BudAt.kind (h : BudAt w bd m L H F) {b : Nat} (hb : b ∈ F) : kindB (ob w b) = true := by
  obtain ⟨hm, vs, h1, h2⟩ := h
  exact h1.kind h2 hb
theorem BudAt.not (h : BudAt w bd m L H F) {b : Nat} (hb : kindB (ob w b) = false) : b ∉ F := fun hm => by
  rw [h.kind hm] at hb; cases hb
theorem BudAt.lt (h : BudAt w bd m L H F) {b : Nat} (hb : b ∈ F) : b < w.heap.size := by
  have := h.kind hb
  unfold kindB at this
  split at this
  · rename_i e; exact ob_lt e
  · rename_i e; exact ob_lt e
  · cases this
theorem BudW.keep {S : List Nat} (h : BudW w bd m hm vs L H) (hF : FpB bd hm vs F) (hk : Keep S w w') (hS : ∀ b, b ∈ F → b ∉ S) : BudW w' bd m hm vs L H :=
  ⟨hk.kp h.st (hS _ ((hF _).2 (.inl rfl))), fun k hk9 => (h.ro k hk9).keep hk (fun b hb => hS b ((hF b).2 (.inr (.inr ⟨k, hk9, hb⟩)))), h.df, h.mp.keep hk (hS _ ((hF _).2 (.inr (.inl rfl))))⟩
theorem BudAt.keep {S : List Nat} (h : BudAt w bd m L H F) (hk : Keep S w w') (hS : ∀ b, b ∈ F → b ∉ S) : BudAt w' bd m L H F := by
  obtain ⟨hm, vs, h1, h2⟩ := h
  exact ⟨hm, vs, h1.keep h2 hk hS, h2⟩
theorem BudAt.new (h : BudAt w bd m L H F) (hk : Keep [] w w') : BudAt w' bd m L H F := h.keep hk (fun _ _ hm => by cases hm)
theorem BudW.ne_bd (h : BudW w bd m hm vs L H) {k : Nat} (hk : k < 9) {b : Nat} (hb : (vs k).ownBlock = some b) : b ≠ bd := fun e => by
  obtain ⟨cs, h1⟩ := (h.ro k hk).ob hb
  subst e
  rw [h.st] at h1
  simp at h1
theorem BudW.ne_hm (h : BudW w bd m hm vs L H) {k : Nat} (hk : k < 9) {b : Nat} (hb : (vs k).ownBlock = some b) : b ≠ hm := fun e => by
  obtain ⟨cs, h1⟩ := (h.ro k hk).ob hb
  obtain ⟨es, c, h2, _⟩ := h.mp
  subst e
  rw [h2] at h1
  simp at h1
theorem BudW.bd_hm (h : BudW w bd m hm vs L H) : bd ≠ hm := fun e => by
  obtain ⟨es, c, h2, _⟩ := h.mp
  rw [← e, h.st] at h2
  simp at h2
/-- a list of it, changed and laid in -/
theorem BudW.setL (h : BudW w bd m hm vs L H) (hF : FpB bd hm vs F) {k : Nat} (hk : k < 9) {v : Value} {xs : List Nat} (hKp : Keep (vs k).ownBlock.toList w w') (hv : LRow w' v xs) (hb : ∀ b, v.ownBlock = some b → (vs k).ownBlock = some b ∨ w.heap.size ≤ b) :
    ∃ F', BudW (w'.setCell ⟨bd, 1 + k, none⟩ v) bd m hm (fun j => if j = k then v else vs j) (updL L k xs) H ∧ FpB bd hm (fun j => if j = k then v else vs j) F' ∧ Keep F w (w'.setCell ⟨bd, 1 + k, none⟩ v) ∧ GF w F F' := by
  have hbd : bd ∉ (vs k).ownBlock.toList := fun hm => by
    simp only [Option.mem_toList] at hm
    exact h.ne_bd hk hm rfl
  have s1 := hKp.kp h.st hbd
  have hsz := hKp.size
  have kF : Keep F w w' := hKp.mono (fun b hb => by
    simp only [Option.mem_toList] at hb
    exact (hF b).2 (.inr (.inr ⟨k, hk, hb⟩)))
  have bdF : bd ∈ F := (hF bd).2 (.inl rfl)
  have kS : Keep [bd] w' (w'.setCell ⟨bd, 1 + k, none⟩ v) := (Keep.refl _ _).setCell (.inl (by simp)) _ _
  have hvb : ∀ b, v.ownBlock = some b → b ≠ bd := fun b hb2 e => by
    rcases hb b hb2 with h1 | h1
    · exact h.ne_bd hk h1 e
    · have := ob_lt h.st; omega
  refine ⟨bd :: hm :: (List.range 9).flatMap (fun j => (if j = k then v else vs j).ownBlock.toList), ⟨?_, fun j hj => ?_, fun i j hi hj hij b => ?_, ?_⟩, fun b => ?_, kF.andThen kS (fun x hx => .inl (by simp at hx; subst hx; exact bdF)), fun b hb2 => ?_⟩
  · rw [blk_store s1, blk_congr]
    intro i hi
    unfold upd bC
    by_cases e : i = 1 + k
    · subst e
      rw [if_pos rfl, if_neg (by omega), if_neg (by omega)]
      show v = if 1 + k - 1 = k then v else vs (1 + k - 1)
      rw [if_pos (by omega)]
    · rw [if_neg e]
      by_cases e0 : i = 0
      · rw [if_pos e0, if_pos e0]
      · rw [if_neg e0, if_neg e0]
        by_cases e10 : i = 10
        · rw [if_pos e10, if_pos e10]
        · rw [if_neg e10, if_neg e10]
          show vs (i - 1) = if i - 1 = k then v else vs (i - 1)
          rw [if_neg (by omega)]
  · unfold updL
    by_cases e : j = k
    · subst e
      simp only [if_true]
      exact hv.keep kS (fun b hb2 hm => hvb b hb2 (by simpa using hm))
    · simp only [if_neg e]
      refine ((h.ro j hj).keep hKp (fun b hb2 hm => ?_)).keep kS (fun b hb2 hm => h.ne_bd hj hb2 (by simpa using hm))
      simp only [Option.mem_toList] at hm
      exact h.df j k hj hk e b hb2 hm
  · by_cases ei : i = k
    · have ej : j ≠ k := fun e => hij (by omega)
      simp only [if_pos ei, if_neg ej]
      intro h1 h2
      rcases hb b h1 with h3 | h3
      · exact h.df k j hk hj (fun e => ej e.symm) b h3 h2
      · have := (h.ro j hj).lt h2; omega
    · by_cases ej : j = k
      · simp only [if_neg ei, if_pos ej]
        intro h1 h2
        rcases hb b h2 with h3 | h3
        · exact h.df i k hi hk ei b h1 h3
        · have := (h.ro i hi).lt h1; omega
      · simp only [if_neg ei, if_neg ej]
        exact h.df i j hi hj hij b
  · refine (h.mp.keep hKp (fun hm => ?_)).keep kS (fun hmm => h.bd_hm (by simp at hmm; exact hmm.symm))
    simp only [Option.mem_toList] at hm
    exact h.ne_hm hk hm rfl
  · simp only [List.mem_cons, List.mem_flatMap, List.mem_range, Option.mem_toList]
  · simp only [List.mem_cons, List.mem_flatMap, List.mem_range, Option.mem_toList] at hb2
    rcases hb2 with rfl | rfl | ⟨j, hj, h1⟩
    · exact .inl bdF
    · exact .inl ((hF _).2 (.inr (.inl rfl)))
    · by_cases e : j = k
      · rw [if_pos e] at h1
        rcases hb b h1 with h3 | h3
        · exact .inl ((hF b).2 (.inr (.inr ⟨k, hk, h3⟩)))
        · exact .inr h3
      · rw [if_neg e] at h1
        exact .inl ((hF b).2 (.inr (.inr ⟨j, hj, h1⟩)))
end
set_option maxRecDepth 100000 in
set_option maxHeartbeats 800000 in
theorem bPut (w : World) (bd m : Nat) (L : LS) (H F : List Nat) (hB : BudAt w bd m L H F) (f k : Nat) (hk : k < 9) (hs : (L k).Pairwise (· < ·)) (hn : (L k).length ≤ 1000) :
    Calls Try.prog 17 #[.pointer (some ⟨bd, 0, none⟩), .agg #[vN f, vN k]] w fun o w' => o = .returned (.tuple #[]) ∧ ∃ F', BudAt w' bd m (updL L k (ins f (L k))) H F' ∧ Keep F w w' ∧ GF w F F' := by
  obtain ⟨hm, vs, hW, hF⟩ := hB
  have k1 : Keep [] w (w.alloc (.cells #[.int .i64 (f : Int), .int .i64 (k : Int)] 58)) := (Keep.refl _ _).alloc _
  have HX := Lib.hid (al_new w (.cells #[.int .i64 (f : Int), .int .i64 (k : Int)] 58) rfl)
  have HW := Lib.hid (hW.keep hF k1 (fun _ _ hm => by cases hm))
  have HK := Lib.hid k1
  have HF := Lib.hid hF
  clear k1 hW hF
  have hk9 : (k : Int) < 9 := by omega
  show Calls Try.prog 17 #[.pointer (some ⟨bd, 0, none⟩), .agg #[.int .i64 (f : Int), .int .i64 (k : Int)]] w _
  go_enter Try.func17, Try.ntmps17
  go_wp2_with fail
  generalize w.alloc (.cells #[.int .i64 (f : Int), .int .i64 (k : Int)] 58) = w1 at *
  generalize w.heap.size = xb at *
  have r0 := cell_of_ob HX.out 0
  have r1 := cell_of_ob HX.out 1
  simp only [List.getElem?_toArray, List.getElem?_cons_zero, List.getElem?_cons_succ] at r0 r1
  have lx := ob_lt HX.out
  have rv := blk_cell HW.out.st (i := 1 + k) (by omega)
  have e1 : bC m hm vs (1 + k) = vs k := by unfold bC; rw [if_neg (by omega), if_neg (by omega)]; congr 1; omega
  rw [e1] at rv
  have lb := ob_lt HW.out.st
  go_region
  have kd : Keep [] w1 w1.drew := (Keep.refl _ _).drew
  have HW2 := Lib.hid (HW.out.keep HF.out kd (fun _ _ hm => by cases hm))
  have HX2 := Lib.hid (kd.kp HX.out (by simp))
  have HK2 := Lib.hid (HK.out.trans kd)
  clear r0 r1 lx rv e1 lb HW HX HK kd
  generalize w1.drew = w2 at *
  have r0 : w2.cell? ⟨xb, 0, none⟩ = some (.int .i64 (f : Int)) := cell_of_ob HX2.out 0
  have lx := ob_lt HX2.out
  go_wp2_with fail
  refine (lSearch w2 (vs k) (L k) (HW2.out.ro k hk) hs hn f).mono ?_
  rintro _ w3 ⟨rfl, q, rfl⟩
  have kd : Keep [] w2 (w2.drewN q) := (Keep.refl _ _).drewN q
  have HW := Lib.hid (HW2.out.keep HF.out kd (fun _ _ hm => by cases hm))
  have HX := Lib.hid (kd.kp HX2.out (by simp))
  have HK := Lib.hid (HK2.out.trans kd)
  clear r0 lx HW2 HX2 HK2 kd
  generalize w2.drewN q = w3 at *
  have HC := Lib.hid (cnt_le f (L k))
  have HI := Lib.hid (insAt_ins (x := f) hs)
  have HL := Lib.hid (HW.out.ro k hk)
  generalize cnt f (L k) = i at *
  have c0 : w3.cell? ⟨xb, 0, none⟩ = some (.int .i64 (f : Int)) := cell_of_ob HX.out 0
  have c1 : w3.cell? ⟨xb, 1, none⟩ = some (.int .i64 (k : Int)) := cell_of_ob HX.out 1
  have e1 : bC m hm vs (1 + k) = vs k := by unfold bC; rw [if_neg (by omega), if_neg (by omega)]; congr 1; omega
  have a0 : ∀ o, (w3.alloc o).drew.cell? ⟨xb, 0, none⟩ = some (.int .i64 (f : Int)) := fun o => cell_of_ob (dr (al HX.out)) 0
  have a1 : ∀ o, (w3.alloc o).drew.cell? ⟨xb, 1, none⟩ = some (.int .i64 (k : Int)) := fun o => cell_of_ob (dr (al HX.out)) 1
  have hne : xb ≠ bd := fun e => by have := HX.out; rw [e, HW.out.st] at this; simp at this
  have hk11 : 1 + k < 11 := by omega
  have HP : Hid (∀ W, Keep [] w3 W → ob W w3.heap.size = some (.cells #[.int .i64 (f : Int)] 3 (0, 0)) → Calls Try.prog 34 #[vs k, .int .i64 (i : Int), .slice (some ⟨w3.heap.size, 0, none⟩) 1 1] W (InsP W (vs k) (L k) i f)) := Lib.hid (fun W kW hW => pInsert W (vs k) (L k) (HL.out.keep kW (by simp)) i f HC.out hn _ hW (fun e => by have := HL.out.lt e; omega))
  have HM : Hid (∀ W W', Keep [] w3 W → Keep (vs k).ownBlock.toList W W' → ob W' xb = some (.cells #[.int .i64 (f : Int), .int .i64 (k : Int)] 58 (0, 0)) ∧ ob W' bd = some (.cells (blk (bC m hm vs) 11) 55 (0, 0))) := Lib.hid (fun W W' k1 k2 => ⟨k2.kp (k1.kp HX.out (by simp)) (fun hmm => by
    simp only [Option.mem_toList] at hmm
    obtain ⟨cs, h1⟩ := HL.out.ob hmm
    rw [HX.out] at h1
    simp at h1), k2.kp (k1.kp HW.out.st (by simp)) (fun hmm => by
    simp only [Option.mem_toList] at hmm
    exact HW.out.ne_bd hk hmm rfl)⟩)
  go_wp2_with fail
  go_region_held3 (fun w' => w'.cell? ⟨xb, 0, none⟩ = some (.int .i64 (f : Int)) ∧ w'.cell? ⟨xb, 1, none⟩ = some (.int .i64 (k : Int))) (first | (with_reducible exact ⟨c0, c1⟩) | (with_reducible exact ⟨a0 _, a1 _⟩) | (refine ⟨?_, ?_⟩ <;> assumption) | (with_reducible exact ⟨n0 _, n1 _⟩) | go_keep) (first | (go_at_call 34; refine (HP.out _ ((Keep.refl _ _).alloc _).drew (al_new _ _ rfl)).mono ?_; rintro _ w4 ⟨va, vc, rfl, i1, i2, i3⟩; obtain ⟨x1, x2⟩ := HM.out _ _ ((Keep.refl _ _).alloc _).drew i2; have m0 : w4.cell? ⟨xb, 0, none⟩ = some (.int .i64 (f : Int)) := cell_of_ob x1 0; have m1 : w4.cell? ⟨xb, 1, none⟩ = some (.int .i64 (k : Int)) := cell_of_ob x1 1; have m2 : w4.cell? ⟨bd, 1 + k, none⟩ = some (bC m hm vs (1 + k)) := blk_cell x2 (i := 1 + k) hk11; have m3 : w4.frozen? ⟨bd, 1 + k, none⟩ = false := free_of_ob x2 _; have n0 : ∀ v, (w4.setCell ⟨bd, 1 + k, none⟩ v).cell? ⟨xb, 0, none⟩ = some (.int .i64 (f : Int)) := fun v => cell_of_ob (st x1 hne) 0; have n1 : ∀ v, (w4.setCell ⟨bd, 1 + k, none⟩ v).cell? ⟨xb, 1, none⟩ = some (.int .i64 (k : Int)) := fun v => cell_of_ob (st x1 hne) 1))
  go_end0
  refine ⟨rfl, ?_⟩
  rw [HI.out] at i1
  have kk : Keep (vs k).ownBlock.toList w3 w4 := (((Keep.refl _ w3).alloc _).drew).trans i2
  have hsz := HK.out.size
  obtain ⟨F', y1, y2, y3, y4⟩ := HW.out.setL HF.out hk kk i1 (fun b hb => by
    obtain ⟨b', e1, e2⟩ := i3
    rw [hb] at e1
    cases e1
    rcases e2 with e2 | e2
    · exact .inl e2
    · right
      have : (w3.alloc (Obj.cells #[Value.int IntKind.i64 ↑f] 3)).drew.heap.size = w3.heap.size + 1 := by simp [World.drew]
      omega)
  refine ⟨F', ⟨hm, _, y1, y2⟩, (HK.out.mono (by simp)).trans y3, fun b hb => ?_⟩
  rcases y4 b hb with h | h
  · exact .inl h
  · right; omega
end Go.Proofs.Ytehmjjfgefopdaa
