import Derived.Test.YtajlpicdkdeceaaDoorJd
import Derived.Deep.DeepCutAuto
import Derived.BigQuiet
namespace Go.Proofs.YtajlpicdkdeceaaDoor
open Go.RowKit
set_option linter.unusedSimpArgs false
set_option linter.unusedVariables false
attribute [local go_sem] ob_alloc ob_drew ob_drewN ob_setCell ob_setBlock objSet_cells obMap_map obClock_map isMapI_map keyI_mk findI_nil findI_cons lookRes_some lookRes_none lookRes_some' lookRes_none' setBlock_alloc mapPut
open Go.Lib

def strE : Enc ByteArray 1 := ⟨fun s => [.string s], fun _ => rfl, fun i u hu => by simp at hu; subst hu; rfl⟩
theorem info9 : (Tryd.prog.info? 9).map (fun i => (i.zero, i.size, i.bytes)) = some (some (.string ⟨#[]⟩), 1, 16) := by kernel_rfl
theorem row_ob {α : Type} {k : Nat} {E : Enc α k} {e : TypeId} {w : World} {B : Nat} {v : Value} {xs : List α} (h : RowE E e w B v xs) {b : Nat} (hb : v.ownBlock = some b) : ∃ cs, ob w b = some (.cells cs e (0, 0)) := by
  obtain ⟨_, h | ⟨g, cap, cur, rfl, _, hg, _⟩⟩ := h
  · rw [h.1] at hb; cases hb
  · simp [Value.ownBlock] at hb
    subst hb
    exact ⟨_, hg⟩
def toB (l : List UInt8) : ByteArray := ⟨l.toArray⟩
def partsB (i : IN) (k : Nat) : List ByteArray := toB (wd i.op.toNat) :: (argsTo i k).map toB
theorem partsB_data (i : IN) (k : Nat) : (partsB i k).map (·.data.toList) = wd i.op.toNat :: argsTo i k := by
  unfold partsB toB
  simp [List.map_map, Function.comp_def]
theorem partsB_skip {i : IN} {k : Nat} (h : named i.op.toNat k = false) : partsB i (k + 1) = partsB i k := by
  unfold partsB argsTo
  rw [List.range_succ, List.filter_append]
  simp [h]
theorem partsB_add {i : IN} {k : Nat} (h : named i.op.toNat k = true) : partsB i (k + 1) = partsB i k ++ [toB (arg i k)] := by
  unfold partsB argsTo
  rw [List.range_succ, List.filter_append]
  simp [h]
theorem partsB_len (i : IN) (k : Nat) : (partsB i k).length ≤ k + 1 := by
  unfold partsB argsTo
  simp only [List.length_cons, List.length_map]
  have := List.length_filter_le (named i.op.toNat) (List.range k)
  rw [List.length_range] at this
  omega
/-- a text in work -/
structure XW (w0 w : World) (fb o : Nat) (v : Value) (xs : List ByteArray) : Prop where
  row : RowE strE 9 w w0.heap.size v xs
  fo : ob w fb = some (.cells #[.string (wdB o), .string (nmB o)] 40 (0, 0))
  kp : Keep [] w0 w
  n : w0.heap.size ≤ fb
section
variable {w0 w w' : World} {fb o : Nat} {v : Value} {xs : List ByteArray}
theorem XW.new (h : XW w0 w fb o v xs) (hk : Keep [] w w') : XW w0 w' fb o v xs := ⟨h.row.keep hk (by simp), hk.kp h.fo (by simp), h.kp.trans hk, h.n⟩
theorem XW.push (h : XW w0 w fb o v xs) (x : ByteArray) (hl : xs.length ≤ 300) :
    ∃ va vc w2, (∀ ty, (Builtin.append_ #[43, 43] ty #[v, .slice (some ⟨w.heap.size, 0, none⟩) 1 1]).run Tryd.prog (w.alloc (.cells #[.string x] 9)) = .ok (.slice va (xs.length + 1) vc) w2) ∧
      XW w0 w2 fb o (.slice va (xs.length + 1) vc) (xs ++ [x]) := by
  have kA : Keep [] w (w.alloc (.cells #[.string x] 9)) := (Keep.refl _ _).alloc _
  have hsz := h.kp.size
  obtain ⟨va, vc, w2, g1, g2, g3, g4⟩ := (h.row.keep kA (by simp)).push (P := Tryd.prog) Tryd.underlying43 info9 rfl (by omega) x (al_new w (.cells #[.string x] 9) rfl) 1 (by omega) (by omega) (by simp; omega)
  have k2 : Keep v.ownBlock.toList w w2 := (kA.mono (by simp)).trans g3
  refine ⟨va, vc, w2, g1, g2, k2.kp h.fo (fun hm => ?_), h.kp.andThen k2 (fun b hb => by simp only [Option.mem_toList] at hb; exact .inr (ownBlock_ge h.row hb)), h.n⟩
  simp only [Option.mem_toList] at hm
  obtain ⟨cs, ho⟩ := row_ob h.row hm
  rw [h.fo] at ho
  simp at ho
end
theorem XW.cells {w0 w : World} {fb o : Nat} {v : Value} {xs : List ByteArray} (h : XW w0 w fb o v xs) (hne : xs ≠ []) : ∃ g cap, v = .slice (some ⟨g, 0, none⟩) xs.length cap ∧ xs.length ≤ cap ∧ g < w.heap.size ∧ ∀ (j : Nat) x, xs[j]? = some x → w.cell? ⟨g, 0 + j, none⟩ = some (.string x) := by
  have hl : 0 < xs.length := List.length_pos_iff.2 hne
  obtain ⟨g, cap, hv, _, hg, hc, _, _⟩ := h.row.get (i := 0) (List.getElem?_eq_getElem hl)
  refine ⟨g, cap, hv, hc, hg, fun j x hj => ?_⟩
  obtain ⟨g', cap', hv', _, _, _, _, hX⟩ := h.row.get hj
  rw [hv] at hv'
  simp only [Value.slice.injEq, Option.some.injEq, Addr.mk.injEq, and_true, true_and] at hv'
  obtain ⟨rfl, rfl⟩ := hv'
  have := hX 0 _ rfl
  rw [Nat.mul_one, Nat.add_zero] at this
  rw [Nat.zero_add]
  exact this
theorem tail_len : ∀ (r : List (List UInt8)), (∀ x ∈ r, x.length ≤ 6) → (joinTail [32] r).length ≤ 7 * r.length
  | [], _ => by simp [joinTail]
  | x :: r, h => by
    have ih := tail_len r (fun y hy => h y (by simp [hy]))
    have hx := h x (by simp)
    simp only [joinTail, List.map_cons, List.flatten_cons, List.length_append, List.length_cons] at ih ⊢
    simp only [List.length_nil]
    omega
theorem right_f {i : IN} (h : right i = true) {k : Nat} (hk : k < 5) (h0 : 0 < k) : 0 ≤ i.f k ∧ i.f k ≤ 65535 := by
  obtain ⟨_, h1, h2, h3, h4⟩ := right_bd h
  match k, hk, h0 with
  | 1, _, _ => exact ⟨h1.1, by simp only [IN.f]; omega⟩
  | 2, _, _ => exact ⟨h2.1, by simp only [IN.f]; omega⟩
  | 3, _, _ => exact ⟨h3.1, by simp only [IN.f]; omega⟩
  | 4, _, _ => exact ⟨h4.1, by simp only [IN.f]; omega⟩
theorem decB_size (n : Int) (h0 : 0 ≤ n) (h1 : n ≤ 65535) : (decB n).size ≤ 5 := by
  have := nDigits_bd n.toNat (by omega)
  unfold decB
  simpa [ByteArray.size] using this
theorem wd_len (o : Nat) : (wd o).length ≤ 5 := by
  unfold wd
  split <;> simp
theorem text_len {i : IN} (h : right i = true) : (text i).length ≤ 40 := by
  unfold text parts
  rw [join_cons, List.length_append]
  have h1 := wd_len i.op.toNat
  have h2 : (joinTail [32] (argsTo i 5)).length ≤ 7 * (argsTo i 5).length := tail_len _ (fun x hx => by
    simp only [argsTo, List.mem_map, List.mem_filter, List.mem_range] at hx
    obtain ⟨k, ⟨hk, hn⟩, rfl⟩ := hx
    have hk0 : 0 < k := by
      unfold named at hn
      simp at hn
      omega
    have hf := right_f h hk hk0
    have := nDigits_bd (i.f k).toNat (by omega)
    unfold arg
    split
    · omega
    · simp; omega)
  have h3 : (argsTo i 5).length ≤ 5 := by
    have := partsB_len i 5
    unfold partsB at this
    simpa using this
  omega
def TextPost (w : World) (i : IN) : Ending → World → Prop := fun e w' => Keep [] w w' ∧
  e = .returned (.tuple #[.string (if right i = true then toB (text i) else ⟨#[]⟩), .int .i64 (if right i = true then 0 else 1)])
set_option maxRecDepth 100000 in
set_option maxHeartbeats 4000000 in
theorem pText (w : World) (i : IN) (hw : i.wf) (hE : Env w) : Calls Tryd.prog 8 #[inV i] w (TextPost w i) := by
  have HE := Lib.hid hE
  have HW := Lib.hid hw
  obtain ⟨op, hop⟩ : ∃ x, i.op = x := ⟨_, rfl⟩
  obtain ⟨a, ha⟩ : ∃ x, i.a = x := ⟨_, rfl⟩
  obtain ⟨b, hb⟩ : ∃ x, i.b = x := ⟨_, rfl⟩
  obtain ⟨c, hc⟩ : ∃ x, i.c = x := ⟨_, rfl⟩
  obtain ⟨im, hm⟩ : ∃ x, i.im = x := ⟨_, rfl⟩
  have hV : inV i = .agg #[.int .i64 op, .int .i64 a, .int .i64 b, .int .i64 c, .int .i64 im] := by unfold inV; rw [hop, ha, hb, hc, hm]
  have HIV := Lib.hid hV
  rw [hV]
  have hkA : Keep [] w (w.alloc (.cells #[.int .i64 op, .int .i64 a, .int .i64 b, .int .i64 c, .int .i64 im] 23)) := (Keep.refl _ _).alloc _
  have HK := Lib.hid hkA
  have HO := Lib.hid (al_new w (.cells #[.int .i64 op, .int .i64 a, .int .i64 b, .int .i64 c, .int .i64 im] 23) rfl)
  have HOP := Lib.hid hop
  clear hw hkA hop ha hb hc hm hV hE
  go_enter Tryd.func8, Tryd.ntmps8
  go_wp2_with fail
  generalize w.alloc (.cells #[.int .i64 op, .int .i64 a, .int .i64 b, .int .i64 c, .int .i64 im] 23) = w1 at *
  generalize w.heap.size = bi at *
  rw [← HIV.out]
  refine (pRight _ i HW.out).mono ?_
  rintro _ w2 ⟨rfl, hk2⟩
  rw [HIV.out]
  have HO2 := Lib.hid (hk2.kp HO.out (by simp))
  have HK2 := Lib.hid (HK.out.trans hk2)
  clear hk2 HK HO
  cases hr : right i with
  | false =>
    have HR := Lib.hid hr
    clear hr
    go_wp2_with fail
    go_ret2
    exact ⟨HK2.out, by rw [HR.out]; rfl⟩
  | true =>
    obtain ⟨o, ho, ho12⟩ := op_nat hr
    obtain rfl : op = o := HOP.out.symm.trans ho
    have hiO : i.op.toNat = o := by rw [ho]; rfl
    have HR := Lib.hid (And.intro hr hiO)
    have hi41 := idx41 o ho12
    clear hr hiO ho
    go_upto_region 3 with fail
    have q0 := cell_of_ob HO2.out 0
    have lb := ob_lt HO2.out
    simp only [List.getElem?_toArray, List.getElem?_cons_zero] at q0
    go_cut [4] from 11 to 53 (fun s4 wx => ∃ fb, s4 = .pointer (some ⟨fb, 0, none⟩) ∧ ob wx fb = some (.cells #[.string (wdB o), .string (nmB o)] 40 (0, 0)) ∧ Keep [] w2 wx ∧ w2.heap.size ≤ fb)
    case first =>
      have hcell : ∀ W w9, Keep [] w2 W → Keep [] W w9 → w9.cell? ⟨bi, 0, none⟩ = some (.int .i64 (o : Int)) := fun W w9 h1 h2 => (cell_old (h1.trans h2) lb).trans q0
      have lbn : bi ≠ w2.heap.size := by omega
      go_region_with ((go_at_call 17; refine (pForms _).mono ?_; rintro _ w9 ⟨rfl, hk9⟩; have hc9 := hcell _ _ (by first | exact (Keep.refl _ _).drew | exact ((Keep.refl _ _).alloc _).drew | exact Keep.refl _ _) hk9; have lb9 : bi < w9.heap.size := Nat.lt_of_lt_of_le (by simp; omega) hk9.size
                       first
                       | (have hz9 := hk9.kp (show ob (w2.alloc (.cells #[.string ⟨#[]⟩, .string ⟨#[]⟩] 40)).drew w2.heap.size = _ from al_new w2 (.cells #[.string ⟨#[]⟩, .string ⟨#[]⟩] 40) rfl) (by simp)
                          have zz0 := cell_of_ob hz9 0
                          have zz1 := cell_of_ob hz9 1
                          have zf0 := free_of_ob hz9 0
                          have zf1 := free_of_ob hz9 1
                          have zl := ob_lt hz9
                          simp only [List.getElem?_toArray, List.getElem?_cons_zero, List.getElem?_cons_succ] at zz0 zz1)
                       | skip))
      all_goals
        clear hc9 hcell
        go_wp2_with fail
        go_meet
        first
        | exact ⟨_, rfl, al_new w9 (.cells #[.string (wdB o), .string (nmB o)] 40) rfl, ((Keep.refl _ _).drew.trans hk9).alloc _, by have := hk9.size; simpa using this⟩
        | exact ⟨_, rfl, (st_same ((st_same hz9).trans rfl)).trans rfl, (((((Keep.refl [] w2).alloc _).drew.trans hk9).setCell (.inr (Nat.le_refl _)) _ _).setCell (.inr (Nat.le_refl _)) _ _), Nat.le_refl _⟩
    case rest =>
      obtain ⟨fb, rfl, hfo, hkc, hnf⟩ := hcut
      have hK3 := HK2.out.trans hkc
      have hX0 : XW w (wc.alloc (.cells #[.string (wdB o)] 9)) fb o (.slice (some ⟨wc.heap.size, 0, none⟩) 1 1) [wdB o] :=
        ⟨⟨rfl, .inr ⟨wc.heap.size, 1, #[.string (wdB o)], rfl, hK3.size, al_new wc (.cells #[.string (wdB o)] 9) rfl, by simp, by unfold maxLen; simp, rfl, rfl⟩⟩, ((Keep.refl [] _).alloc _).kp hfo (by simp), hK3.alloc _, Nat.le_trans HK2.out.size hnf⟩
      have f0 := cell_of_ob hfo 0
      have lf := ob_lt hfo
      have HX := Lib.hid (And.intro hX0 (((Keep.refl [] wc).alloc (.cells #[.string (wdB o)] 9)).kp (hkc.kp HO2.out (by simp)) (by simp)))
      simp only [List.getElem?_toArray, List.getElem?_cons_zero] at f0
      clear hfo hkc hnf hK3 hX0 HK2 hi41
      go_upto_region 5 with fail
      obtain ⟨hX, hob⟩ := HX.out
      generalize wc.alloc (.cells #[.string (wdB o)] 9) = w3 at *
      generalize Value.slice (some ⟨wc.heap.size, 0, none⟩) 1 1 = v0 at *
      have r0 := cell_of_ob hob 0
      have r1 := cell_of_ob hob 1
      have r2 := cell_of_ob hob 2
      have r3 := cell_of_ob hob 3
      have r4 := cell_of_ob hob 4
      have lb3 := ob_lt hob
      simp only [List.getElem?_toArray, List.getElem?_cons_zero, List.getElem?_cons_succ] at r0 r1 r2 r3 r4
      have HX3 := Lib.hid hX
      clear HX hX hob f0 lf
      go_wp2_with fail
      rw [← HIV.out]
      refine (pSplit _ i).mono ?_
      rintro _ w4 ⟨rfl, hk4⟩
      rw [HIV.out]
      have e0 : partsB i 0 = [wdB o] := by unfold partsB; rw [HR.out.2]; rfl
      have hX4 := HX3.out.new hk4
      rw [← e0] at hX4
      have HX4 := Lib.hid hX4
      clear HX3 hk4 e0 hX4 r0 r1 r2 r3 r4 lb3
      go_wp2_with fail
      go_loopg [5, 20] 5 (fun gn s5 s20 wr => ∃ (k : Nat) (v : Value), v = s5 ∧ s20 = .int .i64 k ∧ k ≤ 5 ∧ gn = 5 - k ∧ XW w wr fb o v (partsB i k))
      case atStart => exact ⟨0, _, rfl, rfl, by omega, rfl, HX4.out⟩
      case round =>
        clear HX4
        obtain ⟨k, v, rfl, rfl, hk, rfl, hX⟩ := hrel
        obtain ⟨sl, scl, rfl⟩ := hX.row.slice
        have hL := partsB_len i k
        obtain ⟨L, hLe⟩ : ∃ L, (partsB i k).length = L := ⟨_, rfl⟩
        have HLe := Lib.hid hLe
        rw [hLe] at hX hL ⊢
        by_cases hlt : k < 5
        · have hk5 : (k : Int) < 5 := by omega
          have hi44 := idx44 i k hlt
          obtain ⟨n, hn⟩ : ∃ n, i.f k = n := ⟨_, rfl⟩
          rw [hn] at hi44
          have HN := Lib.hid hn
          have hn' := hn
          have c1 := cell_of_ob hX.fo 1
          have lf := ob_lt hX.fo
          simp only [List.getElem?_toArray, List.getElem?_cons_zero, List.getElem?_cons_succ] at c1
          have HX := Lib.hid hX
          clear hX hn hLe
          rcases Nat.eq_zero_or_pos k with h0 | h0
          · subst h0
            rw [show ((0 : Nat) : Int) = 0 from rfl] at hi44
            have e : partsB i (0 + 1) = partsB i 0 := partsB_skip rfl
            have HE1 := Lib.hid e
            clear e hk5
            go_upto_region 9 with fail
            go_quiet (fail)
            go_wp2_with fail
            go_roundg (5 - (0 + 1))
            case measure => omega
            case rel => exact ⟨0 + 1, _, rfl, by go_num, by omega, rfl, by rw [HE1.out]; exact (HX.out.new ((Keep.refl _ _).drewN _))⟩
          · have hk0 : ((k : Int) == 0) = false := by simp; omega
            have hsx := sl9 k hlt
            cases hh : has o k with
            | false =>
              have e : partsB i (k + 1) = partsB i k := partsB_skip (by unfold named; rw [HR.out.2, hh, Bool.and_false])
              have HC := Lib.hid (fun w => hh ▸ pHas o k w)
              have HE1 := Lib.hid e
              clear hh e
              go_upto_region 9 with fail
              go_quiet ((go_at_call 19; exact Calls.quiet_of_same (HC.out _)))
              go_wp2_with fail
              go_roundg (5 - (k + 1))
              case measure => omega
              case rel => exact ⟨k + 1, _, rfl, by go_num, by omega, rfl, by rw [HE1.out]; exact (HX.out.new ((Keep.refl _ _).drewN _))⟩
            | true =>
              have hnm : named i.op.toNat k = true := by unfold named; rw [HR.out.2, hh]; simp; omega
              have e := partsB_add hnm
              have HC := Lib.hid (fun w => hh ▸ pHas o k w)
              have HE1 := Lib.hid e
              have hnr := right_f HR.out.1 hlt h0
              rw [hn'] at hnr
              clear hh e
              by_cases h4 : k = 4
              · have ha : toB (arg i k) = decB n := by unfold arg decB toB; rw [if_pos h4, HN.out]
                subst h4
                rw [show ((4 : Nat) : Int) = 4 from rfl] at hi44
                clear hk5 hk0
                go_upto_region 9 with fail
                go_quiet ((go_at_call 19; exact Calls.quiet_of_same (HC.out _)))
                have HX5 := Lib.hid (HX.out.new ((Keep.refl _ _).drewN nq))
                generalize wr.drewN nq = w5 at *
                clear c1 lf HX
                go_wp2_with fail
                refine (pItoa _ n hnr.1 hnr.2 (HE.out.keep HX5.out.kp)).mono ?_
                rintro _ w6 ⟨rfl, hk6⟩
                have hX6 := HX5.out.new hk6
                obtain ⟨va, vc, w7, happ, hX7⟩ := hX6.push (toB (arg i 4)) (by rw [HLe.out]; omega)
                rw [HLe.out, ← HE1.out] at hX7
                rw [HLe.out] at happ
                rw [ha] at happ
                have HX7 := Lib.hid hX7
                clear hX6 hX7 HX5 hk6
                go_wp2_with (at_builtin; refine wpList_append_eq rfl _ _ _ rfl rfl rfl (happ _) ?_)
                clear happ
                go_roundg (5 - (4 + 1))
                case measure => omega
                case rel => exact ⟨4 + 1, _, rfl, by go_num, by omega, rfl, HX7.out⟩
              · have hk4 : ((k : Int) == 4) = false := by simp; omega
                have ha : toB (arg i k) = (⟨#[114]⟩ : ByteArray) ++ decB n := by
                  unfold arg decB toB; rw [if_neg h4, HN.out]
                  apply ByteArray.ext
                  simp [ByteArray.data_append]
                go_upto_region 9 with fail
                go_quiet ((go_at_call 19; exact Calls.quiet_of_same (HC.out _)))
                have HX5 := Lib.hid (HX.out.new ((Keep.refl _ _).drewN nq))
                generalize wr.drewN nq = w5 at *
                clear c1 lf HX
                go_wp2_with fail
                refine (pItoa _ n hnr.1 hnr.2 (HE.out.keep HX5.out.kp)).mono ?_
                rintro _ w6 ⟨rfl, hk6⟩
                have hX6 := HX5.out.new hk6
                obtain ⟨va, vc, w7, happ, hX7⟩ := hX6.push (toB (arg i k)) (by rw [HLe.out]; omega)
                rw [HLe.out, ← HE1.out] at hX7
                rw [HLe.out] at happ
                rw [ha] at happ
                have HX7 := Lib.hid hX7
                have hsz : (decB n).size ≤ 5 := decB_size n hnr.1 hnr.2
                clear hX6 hX7 HX5 hk6
                go_wp2_with (at_builtin; refine wpList_append_eq rfl _ _ _ rfl rfl rfl (happ _) ?_)
                clear happ
                go_roundg (5 - (k + 1))
                case measure => omega
                case rel => exact ⟨k + 1, _, rfl, by go_num, by omega, rfl, HX7.out⟩
        · obtain rfl : k = 5 := by omega
          obtain ⟨g, cap, hve, hcp, hg, hcells⟩ := hX.cells (by simp [partsB])
          rw [hLe] at hve hcp
          simp only [Value.slice.injEq, true_and] at hve
          obtain ⟨rfl, rfl⟩ := hve
          have hpd : (partsB i 5).map (·.data.toList) = parts i := partsB_data i 5
          have hj := Tryd.strings_Join g 0 scl (partsB i 5) ⟨#[32]⟩ wr hcells hg (by rw [hLe]; omega) (by rw [hLe]; exact hcp) (by rw [hpd]; have := text_len HR.out.1; unfold text at this; exact Nat.le_trans this (by omega))
          rw [hLe, hpd] at hj
          have HJ := Lib.hid hj
          have HK := Lib.hid hX.kp
          clear hj hX hcells hg hcp hpd
          go_wp2_with fail
          refine HJ.out.mono ?_
          rintro _ w6 ⟨rfl, hb6⟩
          have HF := Lib.hid (HK.out.trans (Keep.ofBelow hb6 []))
          clear hb6 HJ
          go_wp2_with fail
          go_ret2
          exact ⟨HF.out, by rw [HR.out.1]; rfl⟩
end Go.Proofs.YtajlpicdkdeceaaDoor
