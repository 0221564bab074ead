import Derived.Test.YtajlpicdkdeceaaDoorHb
import Derived.Test.YtajlpicdkdeceaaDoorJg
namespace Go.Proofs.YtajlpicdkdeceaaDoor
open Go.RowKit
set_option linter.unusedSimpArgs false
set_option linter.unusedVariables false
attribute [local go_sem] ob_alloc ob_drew ob_drewN ob_setCell ob_setBlock objSet_cells obMap_map obClock_map isMapI_map keyI_mk findI_nil findI_cons lookRes_some lookRes_none lookRes_some' lookRes_none' setBlock_alloc mapPut

/-- a word cut, in work -/
structure OW (w0 w : World) (rb pb : Nat) (p : Nat → Int) : Prop where
  orb : ob w rb = some (.cells (blk (vI fun _ => 0) 5) 23 (0, 0))
  opb : ob w pb = some (.cells (blk (vI p) 5) 44 (0, 0))
  kp : Keep [] w0 w
  n1 : w0.heap.size ≤ pb
  n2 : w0.heap.size ≤ rb
  n3 : rb ≠ pb
section
variable {w0 w w' : World} {rb pb : Nat} {p : Nat → Int}
theorem OW.new (h : OW w0 w rb pb p) (hk : Keep [] w w') : OW w0 w' rb pb p := ⟨hk.kp h.orb (by simp), hk.kp h.opb (by simp), h.kp.trans hk, h.n1, h.n2, h.n3⟩
theorem OW.put (h : OW w0 w rb pb p) (j : Nat) (x : Int) : OW w0 (w.setCell ⟨pb, j, none⟩ (.int .i64 x)) rb pb (updW p j x) := by
  have hK : Keep [pb] w (w.setCell ⟨pb, j, none⟩ (.int .i64 x)) := (Keep.refl _ _).setCell (.inl (by simp)) _ _
  have ho := blk_store h.opb j (.int .i64 x)
  rw [vI_upd] at ho
  exact ⟨hK.kp h.orb (by simpa using h.n3), ho, h.kp.andThen hK (by intro y hy; simp at hy; subst hy; exact .inr h.n1), h.n1, h.n2, h.n3⟩
end
def cutF (x : Nat) (q : Nat) : Nat := x / 2 ^ frN q % 2 ^ lim q
theorem cutF_le (x q : Nat) : cutF x q ≤ 65535 := by
  unfold cutF
  have h1 : x / 2 ^ frN q % 2 ^ lim q < 2 ^ lim q := Nat.mod_lt _ (Nat.two_pow_pos _)
  have h2 : (2 : Nat) ^ lim q ≤ 2 ^ 16 := Nat.pow_le_pow_right (by omega) (lim_le q)
  omega
theorem cut_f (x : Nat) : cutW (x : Int) = ⟨cutF x 0, cutF x 1, cutF x 2, cutF x 3, cutF x 4⟩ := by
  unfold cutW cutF frN lim
  simp only [IN.mk.injEq]
  refine ⟨?_, ?_, ?_, ?_, ?_⟩ <;> simp
def OfP (w : World) (r : Option IN) : Ending → World → Prop := fun e w' => Keep [] w w' ∧ e = .returned (.tuple #[inV (r.getD zeroIN), .int .i64 (if r.isSome = true then 0 else 11)])
set_option maxRecDepth 100000 in
set_option maxHeartbeats 4000000 in
theorem pOf (w : World) (x : Nat) (hx : x < 2 ^ 64) : Calls Tryd.prog 14 #[.int .u64 x] w (OfP w (decW x)) := by
  have h0 : OW w ((w.alloc (.cells #[.int .i64 0, .int .i64 0, .int .i64 0, .int .i64 0, .int .i64 0] 23)).alloc (.cells #[.int .i64 0, .int .i64 0, .int .i64 0, .int .i64 0, .int .i64 0] 44)) w.heap.size (w.heap.size + 1) (fun _ => 0) := by
    have k1 : Keep [] w (w.alloc (.cells #[.int .i64 0, .int .i64 0, .int .i64 0, .int .i64 0, .int .i64 0] 23)) := (Keep.refl _ _).alloc _
    have s1 : (w.alloc (.cells #[.int .i64 0, .int .i64 0, .int .i64 0, .int .i64 0, .int .i64 0] 23)).heap.size = w.heap.size + 1 := by simp
    have o1 := al_new w (.cells #[.int .i64 0, .int .i64 0, .int .i64 0, .int .i64 0, .int .i64 0] 23) rfl
    have o2 := al_new (w.alloc (.cells #[.int .i64 0, .int .i64 0, .int .i64 0, .int .i64 0, .int .i64 0] 23)) (.cells #[.int .i64 0, .int .i64 0, .int .i64 0, .int .i64 0, .int .i64 0] 44) rfl
    rw [s1] at o2
    exact ⟨((Keep.refl [] _).alloc _).kp o1 (by simp), o2, k1.alloc _, by omega, by omega, by omega⟩
  have HO := Lib.hid h0
  clear h0
  go_enter Tryd.func14, Tryd.ntmps14
  go_wp2_with fail
  have h1 := HO.out
  clear HO
  rw [show w.heap.size + 1 = w.heap.size + 1 from rfl] at h1
  generalize ((w.alloc (.cells #[.int .i64 0, .int .i64 0, .int .i64 0, .int .i64 0, .int .i64 0] 23)).alloc (.cells #[.int .i64 0, .int .i64 0, .int .i64 0, .int .i64 0, .int .i64 0] 44)) = w1 at *
  obtain ⟨rb, hrb⟩ : ∃ rb, w.heap.size = rb := ⟨_, rfl⟩
  have HRE := Lib.hid hrb
  rw [hrb] at h1
  simp only [hrb]
  clear hrb
  obtain ⟨pb, hpb⟩ : ∃ pb, rb + 1 = pb := ⟨_, rfl⟩
  rw [hpb] at h1
  simp only [hpb]
  clear hpb
  have HO := Lib.hid h1
  clear h1
  refine (pFields _).mono ?_
  rintro _ w2 ⟨rfl, hk2⟩
  have HO2 := Lib.hid (HO.out.new hk2)
  clear hk2 HO
  go_wp2_with fail
  go_loopg [13] 5 (fun gn s13 wr => ∃ (k : Nat) (p : Nat → Int), s13 = .int .i64 k ∧ k ≤ 5 ∧ gn = 5 - k ∧ OW w wr rb pb p ∧ ∀ q, q < k → p q = cutF x q)
  case atStart => exact ⟨0, _, rfl, by omega, rfl, HO2.out, fun q h => by omega⟩
  case round =>
    clear HO2
    obtain ⟨k, p, rfl, hk, rfl, hD, hpq⟩ := hrel
    by_cases hlt : k < 5
    · have hk5 : (k : Int) < 5 := by omega
      have hi66 := idx66 k hlt
      have hget := fun w => get_yes x hx ((frN k : Nat) : Int) ((lim k : Nat) : Int) (ok_at k hlt) w
      simp only [Int.toNat_natCast, getN_eq] at hget
      have hcl := cutF_le x k
      rw [fr_at k hlt, lim_at k hlt] at hi66
      have hcf : x / 2 ^ frN k % 2 ^ lim k = cutF x k := rfl
      rw [hcf] at hget
      obtain ⟨n, hn⟩ : ∃ n, cutF x k = n := ⟨_, rfl⟩
      rw [hn] at hget hcl
      have HN := Lib.hid hn
      have HG := Lib.hid (fun w => (hget w).mono (fun e w' h => (⟨h.1, h.2.symm⟩ : _ ∧ w' = w)))
      generalize frN k = fr at *
      generalize lim k = lm at *
      have HPQ := Lib.hid hpq
      have hA := hD.new ((Keep.refl [] wr).alloc (.cells #[.int .i64 (fr : Int), .int .i64 (lm : Int)] 65))
      have c0 := blk_cell hA.opb hlt
      have f0 := free_of_ob hA.opb k
      have lp := ob_lt hA.opb
      have HA := Lib.hid hA
      clear hget hcf hn hpq hD hA
      go_upto_region 5 with fail
      generalize hw3 : wr.alloc (.cells #[.int .i64 (fr : Int), .int .i64 (lm : Int)] 65) = w3 at *
      have t0 : w3.cell? ⟨wr.heap.size, 0, none⟩ = some (.int .i64 (fr : Int)) := by rw [← hw3, cell_of_ob (al_new wr (.cells #[.int .i64 (fr : Int), .int .i64 (lm : Int)] 65) rfl)]; rfl
      have t1 : w3.cell? ⟨wr.heap.size, 1, none⟩ = some (.int .i64 (lm : Int)) := by rw [← hw3, cell_of_ob (al_new wr (.cells #[.int .i64 (fr : Int), .int .i64 (lm : Int)] 65) rfl)]; rfl
      have t2 : wr.heap.size < w3.heap.size := by rw [← hw3]; simp
      clear hw3
      go_wp2_with fail
      refine (HG.out _).mono ?_
      rintro _ w4 ⟨rfl, hw4⟩
      obtain rfl : w3 = w4 := hw4.symm
      clear t0 t1 t2
      go_wp2_with fail
      go_roundg (5 - (k + 1))
      case measure => omega
      case rel =>
        refine ⟨k + 1, updW p k n, by go_num, by omega, rfl, HA.out.put k n, fun q hq => ?_⟩
        unfold updW
        split
        · rename_i e; rw [e, HN.out]
        · rename_i e; exact HPQ.out q (by omega)
    · obtain rfl : k = 5 := by omega
      obtain ⟨I, hI⟩ : ∃ I : IN, I = ⟨p 0, p 1, p 2, p 3, p 4⟩ := ⟨_, rfl⟩
      have hIc : I = cutW x := by rw [hI, cut_f, hpq 0 (by omega), hpq 1 (by omega), hpq 2 (by omega), hpq 3 (by omega), hpq 4 (by omega)]
      have hIw : I.wf := fun q => by
        have hb : ∀ q, q < 5 → -9223372036854775808 ≤ p q ∧ p q ≤ 9223372036854775807 := fun q hq => by
          rw [hpq q hq]
          have := cutF_le x q
          omega
        rw [hI]
        match q with
        | 0 => exact hb 0 (by omega)
        | 1 => exact hb 1 (by omega)
        | 2 => exact hb 2 (by omega)
        | 3 => exact hb 3 (by omega)
        | _ + 4 => exact hb 4 (by omega)
      have HI := Lib.hid (And.intro hI (And.intro hIw hIc))
      have HD9 := Lib.hid hD
      have hrg := range_ob hD.opb
      clear hI hIw hIc hpq hD
      go_wp2_with (first
        | ((with_reducible refine at_load 44 4 ?_); refine wpList_load_mid rfl 44 (.tmp 4) rfl pb 0 rfl (blk (vI p) 5).toList _ hrg Tryd.underlying44 rfl (by rw [size44, blk_len]) ?_))
      refine (pJoin wr p).mono ?_
      rintro _ w15 ⟨rfl, hk15⟩
      rw [← HI.out.1]
      have HD10 := HD9.out.new hk15
      obtain ⟨x0, hx0⟩ : ∃ x, I.op = x := ⟨_, rfl⟩
      obtain ⟨x1, hx1⟩ : ∃ x, I.a = x := ⟨_, rfl⟩
      obtain ⟨x2, hx2⟩ : ∃ x, I.b = x := ⟨_, rfl⟩
      obtain ⟨x3, hx3⟩ : ∃ x, I.c = x := ⟨_, rfl⟩
      obtain ⟨x4, hx4⟩ : ∃ x, I.im = x := ⟨_, rfl⟩
      have hV : inV I = .agg #[.int .i64 x0, .int .i64 x1, .int .i64 x2, .int .i64 x3, .int .i64 x4] := by unfold inV; rw [hx0, hx1, hx2, hx3, hx4]
      have HIV := Lib.hid hV
      rw [hV]
      have HA2 := Lib.hid (And.intro (HD10.new ((Keep.refl _ _).alloc (.cells #[.int .i64 x0, .int .i64 x1, .int .i64 x2, .int .i64 x3, .int .i64 x4] 23))) (al_new w15 (.cells #[.int .i64 x0, .int .i64 x1, .int .i64 x2, .int .i64 x3, .int .i64 x4] 23) rfl))
      clear hrg hk15 HD9 HD10 hV hx0 hx1 hx2 hx3 hx4
      go_wp2_with fail
      generalize w15.alloc (.cells #[.int .i64 x0, .int .i64 x1, .int .i64 x2, .int .i64 x3, .int .i64 x4] 23) = w16 at *
      generalize w15.heap.size = ci at *
      rw [← HIV.out]
      refine (pWord w16 I HI.out.2.1).mono ?_
      rintro e w17 ⟨hk17, he⟩
      have HRB : Hid (ob w17 rb = some (.cells (blk (vI fun _ => 0) 5) 23 (0, 0))) := Lib.hid (hk17.kp HA2.out.1.orb (by simp))
      have HKF := Lib.hid (HA2.out.1.kp.trans hk17)
      have hci := hk17.kp HA2.out.2 (by simp)
      clear hk17
      cases hr : right I with
      | false =>
        have HD : Hid (decW x = none) := Lib.hid (by unfold decW; rw [← HI.out.2.2, hr]; simp)
        rw [hr] at he
        simp only [Bool.false_eq_true, if_false] at he
        subst he
        rw [HIV.out]
        clear hr hci
        go_wp2_with (refine wpList_store_mid rfl 23 (.tmp 2) (.tmp 45) rfl rb 0 (blk (vI fun _ => 0) 5) rfl rfl (blk_there HRB.out (by rw [blk_size]; omega)) (by rw [size23, blk_size]) (blk_all _ _ (fun i _ => rfl)) ?_)
        refine bodyPost_ret (ret_row_tmp (P := Tryd.prog) Tryd.results14 (cs := blk (vI fun _ => 0) 5) (t := 23) (fr := (0, 0)) (g := rb) (store_blk HRB.out) rfl Tryd.underlying23 rfl (by rw [size23, blk_size])) rfl ?_
        exact ⟨HKF.out.setCells (.inr (by have := HRE.out; omega)) _ _, by rw [HD.out]; rfl⟩
      | true =>
        have HR := Lib.hid hr
        rw [hr] at he
        simp only [if_true] at he
        subst he
        rw [HIV.out]
        clear hr
        by_cases hts : word I = x
        · have HD : Hid (decW x = some I) := Lib.hid (by unfold decW; rw [← HI.out.2.2]; rw [if_pos ⟨HR.out, hts⟩])
          rw [hts]
          have r0 := cell_of_ob hci 0
          have r1 := cell_of_ob hci 1
          have r2 := cell_of_ob hci 2
          have r3 := cell_of_ob hci 3
          have r4 := cell_of_ob hci 4
          have lc := ob_lt hci
          simp only [List.getElem?_toArray, List.getElem?_cons_zero, List.getElem?_cons_succ] at r0 r1 r2 r3 r4
          clear hts hci
          go_wp2_with (refine wpList_store_mid rfl 23 (.tmp 2) (.tmp 46) rfl rb 0 (blk (vI (fun q => if q = 0 then x0 else if q = 1 then x1 else if q = 2 then x2 else if q = 3 then x3 else x4)) 5) rfl rfl (blk_there HRB.out (by rw [blk_size]; omega)) (by rw [size23, blk_size]) (blk_all _ _ (fun i _ => rfl)) ?_)
          refine bodyPost_ret (ret_row_tmp (P := Tryd.prog) Tryd.results14 (cs := blk (vI (fun q => if q = 0 then x0 else if q = 1 then x1 else if q = 2 then x2 else if q = 3 then x3 else x4)) 5) (t := 23) (fr := (0, 0)) (g := rb) (store_blk HRB.out) rfl Tryd.underlying23 rfl (by rw [size23, blk_size])) rfl ?_
          exact ⟨HKF.out.setCells (.inr (by have := HRE.out; omega)) _ _, by rw [HD.out]; simp only [Option.getD_some]; rw [HIV.out]; rfl⟩
        · have HD : Hid (decW x = none) := Lib.hid (by unfold decW; rw [← HI.out.2.2, if_neg (fun h => hts h.2)])
          have hne2 : (word I == (x : Int)) = false := by simpa using hts
          have hne3 : (word I != (x : Int)) = true := by simpa using hts
          generalize word I = tb at *
          clear hci
          go_wp2_with (refine wpList_store_mid rfl 23 (.tmp 2) (.tmp 45) rfl rb 0 (blk (vI fun _ => 0) 5) rfl rfl (blk_there HRB.out (by rw [blk_size]; omega)) (by rw [size23, blk_size]) (blk_all _ _ (fun i _ => rfl)) ?_)
          refine bodyPost_ret (ret_row_tmp (P := Tryd.prog) Tryd.results14 (cs := blk (vI fun _ => 0) 5) (t := 23) (fr := (0, 0)) (g := rb) (store_blk HRB.out) rfl Tryd.underlying23 rfl (by rw [size23, blk_size])) rfl ?_
          exact ⟨HKF.out.setCells (.inr (by have := HRE.out; omega)) _ _, by rw [HD.out]; rfl⟩
end Go.Proofs.YtajlpicdkdeceaaDoor
