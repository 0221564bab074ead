import Derived.Test.YtpkpdfljhpieaaaPe
namespace Go.Proofs.Ytpkpdfljhpieaaa
open Go.RowKit
set_option linter.unusedSimpArgs false
set_option linter.unusedVariables false
attribute [local go_sem] ob_alloc ob_drew ob_drewN ob_setCell ob_setBlock objSet_cells obMap_map obClock_map isMapI_map keyI_mk findI_nil findI_cons lookRes_some lookRes_none lookRes_some' lookRes_none' setBlock_alloc mapPut

section
variable {α : Type} {w : World} {m : Nat} {q : IntKind} {val : α → Value} {l : List (Int × α)}
theorem lookup_put (x : Int) (a : α) (y : Int) : ∀ l : List (Int × α), (l.map fun p => if p.1 = x then (x, a) else p).lookup y = if y = x then (l.lookup x).map (fun _ => a) else l.lookup y
  | [] => by simp
  | (k, b) :: l => by
    have ih := lookup_put x a y l
    rw [List.map_cons]
    by_cases hk : k = x
    · subst hk
      rw [if_pos rfl, List.lookup_cons, ih]
      by_cases hy : y = k
      · subst hy; simp
      · have : (y == k) = false := by simpa using hy
        simp only [List.lookup_cons, this, if_neg hy]
    · rw [if_neg hk, List.lookup_cons, ih]
      have hxk : (x == k) = false := by simp; omega
      by_cases hy : y = x
      · subst hy
        simp only [List.lookup_cons, hxk, if_true]
      · simp only [if_neg hy, List.lookup_cons]
theorem modify_map (x : Int) (a : α) : ∀ (l : List (Int × α)) (j : Nat) (b : α), (l.map (·.1)).Nodup → l[j]? = some (x, b) → (l.map fun p => if p.1 = x then (x, a) else p) = l.modify j (fun _ => (x, a))
  | [], j, b, _, h => by simp at h
  | (k, c) :: l, 0, b, hn, h => by
    simp only [List.getElem?_cons_zero, Option.some.injEq, Prod.mk.injEq] at h
    obtain ⟨rfl, rfl⟩ := h
    simp only [List.map_cons, List.nodup_cons] at hn
    simp only [List.map_cons, if_true, List.modify_zero_cons, List.cons.injEq, true_and]
    rw [List.map_congr_left (g := id) (fun p hp => ?_), List.map_id]
    rw [if_neg]; rfl
    exact fun e => hn.1 (List.mem_map.2 ⟨p, hp, e⟩)
  | (k, c) :: l, j + 1, b, hn, h => by
    simp only [List.map_cons, List.nodup_cons] at hn
    have h' : l[j]? = some (x, b) := by simpa using h
    have hk : ¬ k = x := fun e => hn.1 (List.mem_map.2 ⟨_, List.mem_of_getElem? h', e.symm⟩)
    simp only [List.map_cons, if_neg hk, List.modify_succ_cons]
    rw [modify_map x a l j b hn.2 h']
theorem MapL.put_old {P : Program} {t kt et : TypeId} (h : MapL w m q val l) (ht : P.underlying t = some (.map kt et)) (hk : P.underlying kt = some (.int q)) (x : Int) (a b : α) (hs : l.lookup x = some b) :
    ∃ w', (Instr.mapUpdate t (.map (some m)) (.int q x) (val a)).run P w = .ok () w' ∧ MapL w' m q val (l.map fun p => if p.1 = x then (x, a) else p) ∧ Keep [m] w w' ∧ w'.heap.size = w.heap.size := by
  have hrun := run_mapUpdate_ob ht hk x (val a) w m h.isMap
  obtain ⟨es, c, h1, h2, h3⟩ := h
  have hf := find_list (q := q) (val := val) x es.toList l 0 h2
  rw [hs] at hf
  cases hf' : findI x es.toList 0 with
  | none => rw [hf'] at hf; simp at hf
  | some y =>
    obtain ⟨j, v⟩ := y
    rw [h1, obMap_map, obClock_map, mapPut, hf'] at hrun
    obtain ⟨_, b', g2, _⟩ := find_place (q := q) (val := val) x es.toList l 0 j v h2 hf'
    have g2' : l[j]? = some (x, b') := by simpa using g2
    refine ⟨_, hrun, ⟨_, _, ob_setBlock_same h1, ?_, ?_⟩, (Keep.refl _ _).setBlock (.inl (by simp)) _, size_setBlock _ _ _⟩
    · rw [modify_map x a l j b' h3 g2', Array.toList_modify]
      apply List.ext_getElem?
      intro i
      have e := congrArg (fun z => z[i]?) h2
      simp only [List.getElem?_map] at e
      simp only [List.getElem?_map, List.getElem?_modify]
      by_cases hij : j = i
      · subst hij
        rw [g2'] at e ⊢
        simp only [if_true]
        cases hes : es.toList[j]? with
        | none => rw [hes] at e; simp at e
        | some en => simp
      · simp only [if_neg hij]
        simpa using e
    · rw [show (l.map fun p => if p.1 = x then (x, a) else p).map (·.1) = l.map (·.1) by
        rw [List.map_map]; exact List.map_congr_left (fun p _ => by simp only [Function.comp]; split <;> simp_all)]
      exact h3
end

/-! ### Many -/
def cnt (S : Nat → Int) (x : Int) : Nat → Int
  | 0 => 0
  | k + 1 => cnt S x k + if S k = x then 1 else 0
theorem cnt_succ (S : Nat → Int) (x : Int) (k : Nat) : cnt S x (k + 1) = cnt S x k + if S k = x then 1 else 0 := rfl
theorem cnt_bd (S : Nat → Int) (x : Int) : ∀ k, 0 ≤ cnt S x k ∧ cnt S x k ≤ k
  | 0 => by simp [cnt]
  | k + 1 => by have := cnt_bd S x k; rw [cnt_succ]; split <;> omega
set_option maxRecDepth 100000 in
set_option maxHeartbeats 800000 in
theorem rMany (w : World) (p : Nat) (S : Nat → Int) (R : Nat → Nat → Int) (hB : RAt w p S R) (x : Int) : Calls Try.prog 37 #[.pointer (some ⟨p, 0, none⟩), .int .i64 x] w fun o w' => o = .returned (.int .i64 (cnt S x 8)) ∧ w = w' := by
  go_enter Try.func37, Try.ntmps37
  go_wp2
  go_loop [5, 6] (fun n i => ∃ k : Nat, k ≤ 8 ∧ i = .int .i64 k ∧ n = .int .i64 (cnt S x k)) (fun _ i => 8 - (intOf i).toNat)
  case atStart => exact ⟨0, by omega, rfl, rfl⟩
  case round =>
    obtain ⟨k, hk, rfl, rfl⟩ := hrel
    have hbd := cnt_bd S x k
    by_cases hlt : k < 8
    · have c0 := hB.state k hlt
      by_cases hs : S k = x
      · have hc : Hid (cnt S x (k + 1) = cnt S x k + 1) := by show _ = _; rw [cnt_succ, if_pos hs]
        rw [hs] at c0
        have HB := Lib.hid hB
        clear hs hB
        go_wp2
        go_round
        case rel => exact ⟨k + 1, by omega, by go_num, by rw [hc.out]⟩
        case measure => simp [intOf]; omega
      · have hc : Hid (cnt S x (k + 1) = cnt S x k) := by show _ = _; rw [cnt_succ, if_neg hs]; omega
        have hs' : (S k == x) = false := by simpa using hs
        have HB := Lib.hid hB
        clear hs hB
        go_wp2
        go_round
        case rel => exact ⟨k + 1, by omega, by go_num, by rw [hc.out]⟩
        case measure => simp [intOf]; omega
    · have e : k = 8 := by omega
      subst e
      clear hB
      go_wp2
      go_ret
      exact ⟨rfl, rfl⟩

theorem size68 : (Try.prog.info? 68).map (·.size) = some 80 := by kernel_rfl
theorem size67 : (Try.prog.info? 67).map (·.size) = some 10 := by kernel_rfl
theorem idx68 (f : Nat → Value) (k : Nat) (hk : k < 8) (w : World) : (Instr.index 68 (.agg (blk f 80)) (.int .i64 (k : Int))).run Try.prog w = .ok (.agg (blk (fun j => f (k * 10 + j)) 10)) w := by
  obtain ⟨i, hi, hs⟩ := Option.map_eq_some_iff.1 size67
  exact run_index_agg Try.underlying68 Try.underlying67 rfl hi hs f 80 rfl k hk w
theorem zeroI (w : World) : (zeroValue 3).run Try.prog w = .ok (.int .i64 0) w := by go_simp
theorem zero67 (w : World) : ob (w.alloc (.cells #[.int .i64 0, .int .u64 0, .int .u64 0, .int .u64 0, .int .u64 0, .int .u64 0, .int .u64 0, .int .u64 0, .int .u64 0, .int .u64 0] 67)) w.heap.size = some (.cells (blk (pcF (fun _ => 0) (fun _ _ => 0)) 10) 67 (0, 0)) := al_new _ _ rfl
/-- what the map of counts says -/
def CntIs (l : List (Int × Int)) (S : Nat → Int) (k : Nat) : Prop := ∀ x, (l.lookup x).getD 0 = cnt S x k
theorem CntIs.start (S : Nat → Int) : CntIs [] S 0 := fun _ => rfl
theorem lookup_app {α : Type} (x : Int) (l m : List (Int × α)) : (l ++ m).lookup x = (l.lookup x).or (m.lookup x) := by
  induction l with
  | nil => simp
  | cons p l ih =>
    obtain ⟨k, a⟩ := p
    simp only [List.cons_append, List.lookup_cons]
    cases h : (x == k) <;> simp [ih]
theorem CntIs.put {w : World} {m : Nat} {l : List (Int × Int)} {S : Nat → Int} {k : Nat} (hM : MapL w m .i64 (fun x : Int => Value.int .i64 x) l) (hC : CntIs l S k) :
    ∃ w' l', (Instr.mapUpdate 73 (.map (some m)) (.int .i64 (S k)) (.int .i64 (cnt S (S k) k + 1))).run Try.prog w = .ok () w' ∧ MapL w' m .i64 (fun x : Int => Value.int .i64 x) l' ∧ CntIs l' S (k + 1) ∧ Keep [m] w w' ∧ w'.heap.size = w.heap.size := by
  cases hl : l.lookup (S k) with
  | none =>
    obtain ⟨w', h1, h2, h3, h4⟩ := hM.put_new (P := Try.prog) Try.underlying73 Try.underlying3 (S k) (cnt S (S k) k + 1) hl
    refine ⟨w', _, h1, h2, fun y => ?_, h3, h4⟩
    have hy := hC y
    rw [lookup_app, cnt_succ, ← hy]
    by_cases e : S k = y
    · subst e
      rw [hl]
      have := hC (S k)
      rw [hl] at this
      simp at this ⊢
      omega
    · have e' : (y == S k) = false := by simp; omega
      rw [if_neg e]
      simp [List.lookup_cons, e']
  | some b =>
    obtain ⟨w', h1, h2, h3, h4⟩ := hM.put_old (P := Try.prog) Try.underlying73 Try.underlying3 (S k) (cnt S (S k) k + 1) b hl
    refine ⟨w', _, h1, h2, fun y => ?_, h3, h4⟩
    have hy := hC y
    rw [lookup_put, cnt_succ]
    by_cases e : S k = y
    · subst e
      rw [if_pos rfl, if_pos rfl, hl]; rfl
    · rw [if_neg (fun a => e a.symm), if_neg e, hy]; omega
set_option maxRecDepth 100000 in
set_option maxRecDepth 100000 in
set_option maxHeartbeats 800000 in
theorem pMany (w : World) (p : Nat) (S : Nat → Int) (R : Nat → Nat → Int) (hB : BAt w p S R) (x : Int) : Calls Try.prog 36 #[.pointer (some ⟨p, 0, none⟩), .int .i64 x] w fun o w' => o = .returned (.int .i64 (cnt S x 8)) ∧ Keep [] w w' := by
  have hmm := @run_makeMap Try.prog
  have hM0 := MapL.new (q := .i64) (val := fun x : Int => Value.int .i64 x) (al_new w (.map #[] 0) rfl)
  have hk0 : Keep [] w (w.alloc (.map #[] 0)) := (Keep.refl _ _).alloc _
  have lp := ob_lt hB
  have hB0 : BAt (w.alloc (.map #[] 0)) p S R := al hB
  have r0 : (w.alloc (.map #[] 0)).rangeAt p 0 (blk (pcF S R) 80).toList := range_ob hB0
  have R0 := Lib.hid r0
  have M0 := Lib.hid hM0
  clear hB hB0 r0 hM0
  go_enter Try.func36, Try.ntmps36
  go_wp2_with (refine wpList_load_mid rfl 68 (.tmp 11) rfl p 0 rfl (blk (pcF S R) 80).toList _ R0.out Try.underlying68 rfl (by rw [size68, blk_len]) ?_)
  obtain ⟨m, hm⟩ : ∃ m, m = w.heap.size := ⟨_, rfl⟩
  have hM0 := M0.out
  rw [← hm] at hM0 ⊢
  have hmw : w.heap.size ≤ m := by omega
  clear hm R0 M0 hmm
  go_loopw [13] (fun i wr => ∃ (k : Nat) (l : List (Int × Int)), k ≤ 8 ∧ i = .int .i64 k ∧ MapL wr m .i64 (fun x : Int => Value.int .i64 x) l ∧ CntIs l S k ∧ Keep [] w wr) (fun i _ => 8 - (intOf i).toNat)
  case atStart => exact ⟨0, _, by omega, rfl, hM0, CntIs.start S, hk0⟩
  case round =>
    clear hM0 hk0
    obtain ⟨k, l, hk, rfl, hM, hC, hkp⟩ := hrel
    by_cases hlt : k < 8
    · have hZ := zero67 wr
      have T1 := Lib.hid (blk_there hZ (o := 0) (k := 10) (by omega))
      have hO := store_blk (g := fun j => pcF S R (k * 10 + j)) hZ
      have hk2 : Keep [] wr ((wr.alloc (.cells #[.int .i64 0, .int .u64 0, .int .u64 0, .int .u64 0, .int .u64 0, .int .u64 0, .int .u64 0, .int .u64 0, .int .u64 0, .int .u64 0] 67)).setCells wr.heap.size 0 (blk (fun j => pcF S R (k * 10 + j)) 10).toList) := ((Keep.refl _ _).alloc _).setCells (.inr (Nat.le_refl _)) _ _
      obtain ⟨w2, hw2⟩ : ∃ w2, w2 = (wr.alloc (.cells #[.int .i64 0, .int .u64 0, .int .u64 0, .int .u64 0, .int .u64 0, .int .u64 0, .int .u64 0, .int .u64 0, .int .u64 0, .int .u64 0] 67)).setCells wr.heap.size 0 (blk (fun j => pcF S R (k * 10 + j)) 10).toList := ⟨_, rfl⟩
      rw [← hw2] at hO hk2
      have c0 : w2.cell? ⟨wr.heap.size, 0, none⟩ = some (.int .i64 (S k)) := by
        rw [blk_cell hO (by omega)]; unfold pcF; rw [if_pos (by omega), show (k * 10 + 0) / 10 = k by omega]
      have hM2 := hM.keep hk2 (by simp)
      have hlook := hM2.look1 (P := Try.prog) Try.underlying73 Try.underlying3 zeroI (S k)
      have e : ((l.lookup (S k)).map (fun x : Int => Value.int .i64 x)).getD (.int .i64 0) = .int .i64 (cnt S (S k) k) := by
        rw [← hC (S k)]; cases l.lookup (S k) <;> rfl
      rw [e] at hlook
      obtain ⟨w3, l', hput, hM3, hC3, hk3, hs3⟩ := CntIs.put hM2 hC
      have hbd := cnt_bd S (S k) k
      have HH := Lib.hid (And.intro hM3 (And.intro hC3 ((hkp.trans hk2).andThen hk3 (by simp; exact hmw))))
      have HW := Lib.hid hw2
      generalize cnt S (S k) k = c at *
      clear hZ hO hk2 hw2 hM hM2 hC hM3 hC3 hk3 hs3 hkp e
      go_wp2_with (first
        | (refine wpList_index_eq rfl 68 (.tmp 12) (.tmp 13) rfl rfl rfl (idx68 _ k hlt wr) ?_)
        | (refine wpList_store_mid rfl 67 (.tmp 7) (.tmp 15) rfl wr.heap.size 0 (blk (fun j => pcF S R (k * 10 + j)) 10) rfl rfl (by rw [blk_size]; exact T1.out) (by rw [size67, blk_size]) (blk_all _ _ (fun i _ => by unfold pcF; split <;> rfl)) ?_; rw [← HW.out]))
      go_roundw
      case rel => exact ⟨k + 1, l', by omega, by go_num, HH.out.1, HH.out.2.1, HH.out.2.2⟩
      case measure => simp [intOf]; omega
    · have e : k = 8 := by omega
      subst e
      have hlook := hM.look1 (P := Try.prog) Try.underlying73 Try.underlying3 zeroI x
      have e : ((l.lookup x).map (fun x : Int => Value.int .i64 x)).getD (.int .i64 0) = .int .i64 (cnt S x 8) := by
        rw [← hC x]; cases l.lookup x <;> rfl
      rw [e] at hlook
      clear hM hC e
      go_wp2
      go_ret
      exact ⟨rfl, hkp⟩
end Go.Proofs.Ytpkpdfljhpieaaa
