import Derived.Test.YtehmjjfgefopdaaWx
import Derived.Lib.SlKeysI
namespace Go.Proofs.Ytehmjjfgefopdaa
open Go.RowKit
set_option linter.unusedSimpArgs false
set_option linter.unusedVariables false
attribute [local go_sem] ob_alloc ob_drew ob_drewN ob_setCell ob_setBlock objSet_cells obMap_map obClock_map isMapI_map keyI_mk findI_nil findI_cons lookRes_some lookRes_none lookRes_some' lookRes_none' setBlock_alloc mapPut

/-! ### all tables, plainly -/
theorem mem_eK {b : Bool} {M : Nat → Nat → EN} {d f x : Nat} : x ∈ eK b M d f 16 ↔ ∃ p, p < 16 ∧ x ∈ eS b M d f p := by
  unfold eK
  rw [List.mem_flatMap]
  simp only [List.mem_range]
theorem mem_oneT {e : EN} {x : Nat} : x ∈ oneE true e ↔ e.v = true ∧ e.t = true ∧ x = e.f := by
  unfold oneE
  cases hv : e.v <;> cases ht : e.t <;> simp
theorem eS_out {M : Nat → Nat → EN} {r : Nat} {lv : LV} (h : Sp M r lv) : ∀ (d f l p : Nat), lv f = some l → l + d = 2 → p < 16 → ∀ x, x ∈ eS true M d f p → lv x ≠ none
  | 0, f, l, p, hf, hl, hp, x, hx => by
    obtain ⟨h1, h2, h3⟩ := mem_oneT.1 hx
    have := (h.tab f l hf p hp h1).1
    rw [h2] at this
    have h4 : l < 2 := by simpa using this.symm
    omega
  | d + 1, f, l, p, hf, hl, hp, x, hx => by
    rw [eS, List.mem_append] at hx
    rcases hx with hx | hx
    · obtain ⟨h1, h2, h3⟩ := mem_oneT.1 hx
      rw [h3, h.ne_child hf (by omega) hp h1]; simp
    · split at hx
      · rename_i hvt
        simp only [Bool.and_eq_true] at hvt
        obtain ⟨q, hq, hx⟩ := mem_eK.1 (show x ∈ eK true M d (M f p).f 16 from hx)
        exact eS_out h d _ (l + 1) q (h.ne_child hf (by omega) hp hvt.1) (by omega) hq x hx
      · cases hx
theorem tabs_iff {M : Nat → Nat → EN} {r : Nat} {lv : LV} (h : Sp M r lv) (x : Nat) : x ∈ r :: eK true M 2 r 16 ↔ lv x ≠ none := by
  have hr : lv r = some 0 := (h.rt r).2 rfl
  constructor
  · intro hx
    rcases List.mem_cons.1 hx with rfl | hx
    · rw [hr]; simp
    · obtain ⟨p, hp, hx⟩ := mem_eK.1 hx
      exact eS_out h 2 r 0 p hr rfl hp x hx
  · intro hx
    cases hl : lv x with
    | none => exact absurd hl hx
    | some l =>
      match l, hl with
      | 0, hl => rw [(h.rt x).1 hl]; exact .head _
      | 1, hl =>
        obtain ⟨f', p, h1, h2, h3, h4⟩ := h.par x 0 hl
        obtain rfl := (h.rt f').1 h1
        have ht := (h.tab f' 0 h1 p h2 h3).1
        refine List.mem_cons_of_mem _ (mem_eK.2 ⟨p, h2, ?_⟩)
        rw [eS, List.mem_append]
        exact .inl (mem_oneT.2 ⟨h3, by simpa using ht, h4.symm⟩)
      | 2, hl =>
        obtain ⟨f', p, h1, h2, h3, h4⟩ := h.par x 1 hl
        obtain ⟨f0, q, g1, g2, g3, g4⟩ := h.par f' 0 h1
        obtain rfl := (h.rt f0).1 g1
        have ht := (h.tab f' 1 h1 p h2 h3).1
        have gt := (h.tab f0 0 g1 q g2 g3).1
        refine List.mem_cons_of_mem _ (mem_eK.2 ⟨q, g2, ?_⟩)
        rw [eS, List.mem_append]
        right
        rw [if_pos (by rw [g3]; simpa using gt), g4]
        refine mem_eK.2 ⟨p, h2, ?_⟩
        rw [eS, List.mem_append]
        exact .inl (mem_oneT.2 ⟨h3, by simpa using ht, h4.symm⟩)
      | l + 3, hl => have := h.le x _ hl; omega
/-! ### Sort -/
theorem flat3 (xs : List Nat) : E3.flat xs = (nI xs).map encZ := by
  unfold Enc.flat E3 nI
  simp only [List.map_map]
  induction xs with
  | nil => rfl
  | cons x xs ih => simp only [List.flatMap_cons, List.map_cons, ih]; rfl
def srt3 (xs : List Nat) : List Nat := ((nI xs).mergeSort fun x y => decide (x ≤ y)).map Int.toNat
theorem srt3_mem (xs : List Nat) (x : Nat) : x ∈ srt3 xs ↔ x ∈ xs := by
  unfold srt3
  simp only [List.mem_map, List.mem_mergeSort]
  unfold nI
  constructor
  · rintro ⟨a, h, rfl⟩
    obtain ⟨b, hb, rfl⟩ := List.mem_map.1 h
    simpa using hb
  · intro h
    exact ⟨(x : Int), List.mem_map.2 ⟨x, h, rfl⟩, by simp⟩
theorem srt3_len (xs : List Nat) : (srt3 xs).length = xs.length := by
  unfold srt3
  rw [List.length_map, List.length_mergeSort, nI_len]
theorem srt3_nI (xs : List Nat) : nI (srt3 xs) = (nI xs).mergeSort fun x y => decide (x ≤ y) := by
  unfold srt3
  have hp : ∀ a ∈ (nI xs).mergeSort (fun x y => decide (x ≤ y)), 0 ≤ a := by
    intro a ha
    rw [List.mem_mergeSort] at ha
    obtain ⟨b, _, rfl⟩ := List.mem_map.1 ha
    omega
  generalize (nI xs).mergeSort (fun x y => decide (x ≤ y)) = l at *
  unfold nI
  rw [List.map_map]
  conv => rhs; rw [← List.map_id l]
  refine List.map_congr_left (fun a ha => ?_)
  have := hp a ha
  simp
  omega
theorem lSort (w : World) (B : Nat) (v : Value) (xs : List Nat) (h : RowE E3 3 w B v xs) (hl : xs.length ≤ 1000000) :
    Calls Try.prog 29 #[v] w fun o w' => o = .returned (.tuple #[]) ∧ RowE E3 3 w' B v (srt3 xs) ∧ Keep v.ownBlock.toList w w' := by
  obtain ⟨hlen, ⟨rfl, h0⟩ | ⟨g, cap, cur, rfl, hb, hg, hn, hm, hc, ht⟩⟩ := h
  · have hx : xs = [] := List.eq_nil_of_length_eq_zero (by omega)
    subst hx
    refine (Try.slices_Sort_int_none none 0 w).mono ?_
    rintro _ w' ⟨rfl, rfl⟩
    have e0 : srt3 [] = [] := List.eq_nil_of_length_eq_zero (by rw [srt3_len]; rfl)
    exact ⟨rfl, by rw [e0]; exact RowE.nil _ _, Keep.refl _ _⟩
  · rw [Nat.mul_one] at ht hc
    have hL := nI_len xs
    have hH := holds_of_block_i (w := w) (g := g) (cur := cur) (e := 3) (ss := nI xs) hg (by rw [hL, ht, flat3])
    have hS := Try.slices_Sort_int g 0 cap (nI xs) w hH (ob_lt hg) (by omega)
    rw [hL] at hS
    refine hS.mono ?_
    rintro _ w' ⟨rfl, q, os, rfl⟩
    refine ⟨rfl, ?_, Keep.ofGrown (grownBy_sorted_i _)⟩
    have := ownsRow_sorted_i (w := w) (base := B) (g := g) (cap := cap) (n := q) (e := 3) (os := os) (cur := cur) (ss := nI xs) (ts := (nI xs).mergeSort fun x y => decide (x ≤ y)) (by rw [List.length_mergeSort]) hb hg (by omega) hm (by omega)
    unfold RowE
    rw [srt3_len, flat3, srt3_nI, ← hL]
    exact this
def TblP (w : World) (lv : LV) : Ending → World → Prop := fun o w' => Keep [] w w' ∧ ∃ v ys, o = .returned v ∧ RowE E3 3 w' w.heap.size v ys ∧ (∀ x, x ∈ ys ↔ lv x ≠ none) ∧ ys.length ≤ 5000
set_option maxRecDepth 100000 in
set_option maxHeartbeats 1000000 in
theorem sTables (w : World) (m bd g n r sp : Nat) (M : Nat → Nat → EN) (hM : MemE w m g n M) (hs : ob w sp = some (spO m bd r)) (lv : LV) (hS : Sp M r lv) (hn : ∀ f, lv f ≠ none → f < n) :
    Calls Try.prog 11 #[.pointer (some ⟨sp, 0, none⟩)] w (TblP w lv) := by
  have hmf : ∀ (fn : Fn) (first cap : Array Value) (w : World), (Instr.makeFunc fn first cap).run Try.prog w = .ok (.func fn first cap) w := fun _ _ _ _ => rfl
  have s2 : w.cell? ⟨sp, 2, none⟩ = some (.int .i64 (r : Int)) := cell_of_ob hs 2
  have ls := ob_lt hs
  have HE := Lib.hid (each28 w m bd g n r sp M hM hs lv hS hn 2)
  have HI := Lib.hid (tabs_iff hS)
  have HS := Lib.hid hs
  have HR := Lib.hid ((hS.rt r).2 rfl)
  have kA : Keep [] w ((w.alloc (.cells #[.int .i64 (r : Int)] 3)).alloc (.cells #[.slice (some ⟨w.heap.size, 0, none⟩) 1 1] 22)) := ((Keep.refl _ _).alloc _).alloc _
  have HK : Hid (KO w ((w.alloc (.cells #[.int .i64 (r : Int)] 3)).alloc (.cells #[.slice (some ⟨w.heap.size, 0, none⟩) 1 1] 22)) (w.heap.size + 1) (.slice (some ⟨w.heap.size, 0, none⟩) 1 1) [r]) := Lib.hid ⟨⟨rfl, .inr ⟨w.heap.size, 1, #[.int .i64 (r : Int)], rfl, Nat.le_refl _, al (al_new w (.cells #[.int .i64 (r : Int)] 3) rfl), Nat.le_refl _, by unfold maxLen; omega, rfl, rfl⟩⟩, al_new _ _ (by simp), kA, by omega⟩
  clear hM hs hS hn kA
  go_enter Try.func11, Try.ntmps11
  go_wp2_with fail
  refine (HE.out _ (w.heap.size + 1) _ [r] r 0 0 0 HR.out rfl HK.out (by simp [eB])).mono ?_
  rintro _ w2 ⟨rfl, v2, hK2⟩
  have HK2 := Lib.hid hK2
  have o2 : w2.cell? ⟨w.heap.size + 1, 0, none⟩ = some v2 := cell_of_ob hK2.bx 0
  have lo2 := ob_lt hK2.bx
  have hl : ([r] ++ eK true M 2 r 16).length ≤ 5000 := by
    rw [List.length_append]
    have := eK_len true M 2 r 16
    have e : eB 2 = 273 := rfl
    rw [e] at this
    simp only [List.length_cons, List.length_nil]
    omega
  clear hK2 HE HK s2 ls
  go_wp2_with fail
  refine (lSort w2 w.heap.size v2 _ HK2.out.row (by omega)).mono ?_
  rintro _ w3 ⟨rfl, hr3, hk3⟩
  have hb3 : ob w3 (w.heap.size + 1) = some (.cells #[v2] 22 (0, 0)) := hk3.kp HK2.out.bx (fun hm => by
    simp only [Option.mem_toList] at hm
    obtain ⟨cs, ho⟩ := row_ob HK2.out.row hm
    rw [HK2.out.bx] at ho
    simp at ho)
  have HH : Hid (Keep [] w w3 ∧ RowE E3 3 w3 w.heap.size v2 (srt3 ([r] ++ eK true M 2 r 16))) := Lib.hid ⟨HK2.out.kp.andThen hk3 (fun b hb => by
    simp only [Option.mem_toList] at hb
    exact .inr (ownBlock_ge HK2.out.row hb)), hr3⟩
  have o3 : w3.cell? ⟨w.heap.size + 1, 0, none⟩ = some v2 := cell_of_ob hb3 0
  have lo3 := ob_lt hb3
  clear hr3 hk3 hb3 o2 lo2
  go_wp2_with fail
  go_ret
  exact ⟨HH.out.1, v2, _, rfl, HH.out.2, fun x => by rw [srt3_mem]; exact HI.out x, by rw [srt3_len]; exact hl⟩
/-! ### Close -/
def ClP (w : World) (bd m g n R : Nat) (M : Nat → Nat → EN) (H F : List Nat) (lv : LV) : Ending → World → Prop := fun o w' =>
  ∃ v M' H', o = .returned v ∧ MB w w' bd m g n R M' H' F ∧ (∀ f, f ∈ H' ↔ (f ∈ H ∧ lv f = none)) ∧ (∀ f, lv f = none → ∀ p, M' f p = M f p)
set_option maxRecDepth 100000 in
set_option maxHeartbeats 2000000 in
theorem sClose (w : World) (bd m g n R r sp : Nat) (M : Nat → Nat → EN) (L : LS) (H F : List Nat) (lv : LV) (hM : MemE w m g n M) (hB : BudAt w bd m L H F) (hS : BS n R L H) (hs : ob w sp = some (spO m bd r)) (hSp : Sp M r lv) (hown : ∀ f, lv f ≠ none → f ∈ H) :
    Calls Try.prog 12 #[.pointer (some ⟨sp, 0, none⟩)] w (ClP w bd m g n R M H F lv) := by
  have hmf : ∀ (fn : Fn) (first cap : Array Value) (w : World), (Instr.makeFunc fn first cap).run Try.prog w = .ok (.func fn first cap) w := fun _ _ _ _ => rfl
  have hn : ∀ f, lv f ≠ none → f < n := fun f hf => (hS.held (hown f hf)).2
  have hspm : sp ≠ g ∧ sp ≠ m := ⟨hM.gne hs (by decide), hM.mne hs (by decide)⟩
  have HQ0 : Hid (MQ w w bd m g n R M H F [(sp, spO m bd r)] (.slice none 0 0) []) := Lib.hid (MQ.init hM hB hS (fun x hx => by simp at hx; subst hx; exact ⟨hs, rfl, hspm.1, hspm.2⟩))
  have kA : Keep [] w (w.alloc (.cells #[.slice none 0 0] 22)) := (Keep.refl _ _).alloc _
  have hs1 := kA.kp hs (by simp)
  have s2 : (w.alloc (.cells #[.slice none 0 0] 22)).cell? ⟨sp, 2, none⟩ = some (.int .i64 (r : Int)) := cell_of_ob hs1 2
  have ls := ob_lt hs1
  have HE := Lib.hid (each30 w m bd g n r sp M hM hs lv hSp hn 2)
  have HT : Hid (∀ W, Keep [] w W → Calls Try.prog 11 #[.pointer (some ⟨sp, 0, none⟩)] W (TblP W lv)) := Lib.hid (fun W k => sTables W m bd g n r sp M (hM.keep k (by simp) (by simp)) (k.kp hs (by simp)) lv hSp hn)
  have HR := Lib.hid ((hSp.rt r).2 rfl)
  have HN := Lib.hid hn
  have HN2 := Lib.hid hS.le
  have HO := Lib.hid hown
  have HK : Hid (KO w (w.alloc (.cells #[.slice none 0 0] 22)) w.heap.size (.slice none 0 0) []) := Lib.hid ⟨RowE.nil _ _, al_new _ _ rfl, kA, Nat.le_refl _⟩
  clear hM hB hS hs hSp hown hn hspm kA hs1
  go_enter Try.func12, Try.ntmps12
  go_upto_region 2 with fail
  generalize w.alloc (.cells #[.slice none 0 0] 22) = w1 at *
  go_wp2_with fail
  refine (HE.out _ w.heap.size _ [] r 0 0 0 HR.out rfl HK.out (by simp [eB])).mono ?_
  rintro _ w2 ⟨rfl, v2, hK2⟩
  have HK2 := Lib.hid hK2
  clear hK2 HE HK s2 ls
  go_wp2_with fail
  refine (HT.out w2 HK2.out.kp).mono ?_
  rintro _ w3 ⟨hk3, v3, ys, rfl, hr3, hy, hyl⟩
  have hrow := hr3
  obtain ⟨hlen, ⟨rfl, h0⟩ | ⟨gs, cap, cur, rfl, hgb, hg, hgn, hgm, hgc, hgt⟩⟩ := hr3
  · exfalso
    have := (hy r).2 (by rw [HR.out]; simp)
    rw [List.eq_nil_of_length_eq_zero (show ys.length = 0 by omega)] at this
    cases this
  · have hkw : Keep [] w w3 := HK2.out.kp.trans hk3
    have hsz := HK2.out.kp.size
    have hbx : ob w3 w.heap.size = some (.cells #[v2] 22 (0, 0)) := hk3.kp HK2.out.bx (by simp)
    have HQ3 := Lib.hid (HQ0.out.add2 (b := gs) (b' := w.heap.size) (by omega) (Nat.le_refl _) hkw hg hbx)
    have HY := Lib.hid hy
    have HCUR : Hid (∀ (i x : Nat), ys[i]? = some x → cur[i]? = some (.int .i64 (x : Int))) := Lib.hid (fun i x hx => by
      obtain ⟨g', cap', e1, _, _, _, _, h5⟩ := hrow.get hx
      simp only [Value.slice.injEq, Option.some.injEq, Addr.mk.injEq, and_true] at e1
      obtain ⟨rfl, _⟩ := e1
      have := h5 0 _ rfl
      rw [Nat.mul_one, Nat.add_zero, cell_of_ob (w := w3) hg] at this
      exact this)
    clear hrow hlen hgb hg hgt hk3 hy hkw hbx HK2 HQ0 HT hgc
    go_wp2_with fail
    go_loopg [16] ys.length (fun gn s16 wr => ∃ (i : Nat) (M' : Nat → Nat → EN) (H' : List Nat), s16 = .int .i64 (i : Int) ∧ i ≤ ys.length ∧ MQ w wr bd m g n R M' H' F [(w.heap.size, .cells #[v2] 22 (0, 0)), (gs, .cells cur 3 (0, 0)), (sp, spO m bd r)] (.slice none 0 0) [] ∧ (∀ f, f ∈ H' ↔ (f ∈ H ∧ f ∉ ys.take i)) ∧ (∀ f, f ∉ ys.take i → ∀ p, M' f p = M f p) ∧ gn = ys.length - i)
    case atStart => exact ⟨0, M, H, rfl, by omega, HQ3.out, fun f => by simp, fun f _ p => rfl, rfl⟩
    case round =>
      clear HQ3
      obtain ⟨i, M', H', rfl, hi, hQ, hH', hM', hgi⟩ := hrel
      have HQ := Lib.hid hQ
      have HH := Lib.hid hH'
      have HMM := Lib.hid hM'
      clear hQ hH' hM'
      by_cases hlt : i < ys.length
      · obtain ⟨x, hx⟩ : ∃ x, ys[i]? = some x := ⟨ys[i], List.getElem?_eq_getElem hlt⟩
        have hc := HQ.out.kn (x := (gs, .cells cur 3 (0, 0))) (by simp)
        have hss := HQ.out.kn (x := (sp, spO m bd r)) (by simp)
        have rc : wr.cell? ⟨gs, i, none⟩ = some (.int .i64 (x : Int)) := by rw [cell_of_ob hc]; exact HCUR.out i x hx
        have s1 : wr.cell? ⟨sp, 1, none⟩ = some (.pointer (some ⟨bd, 0, none⟩)) := cell_of_ob hss 1
        have lc := ob_lt hc
        have ls := ob_lt hss
        have hi' : (i : Int) < (ys.length : Int) := by omega
        have hx256 : x < 256 := by
          have := HN.out x ((HY.out x).1 (List.mem_of_getElem? hx))
          have := HN2.out
          omega
        have HTK : Hid (ys.take (i + 1) = ys.take i ++ [x]) := Lib.hid (by rw [List.take_add_one, hx]; rfl)
        obtain ⟨L1, F1, b1, b2, b3⟩ := HQ.out.call
        have HF := Lib.hid (bFree wr bd m g n R M' L1 H' F1 HQ.out.me b1 b2 x hx256)
        have HB3 := Lib.hid (And.intro b3 b2.nd)
        clear hc hss hx b1 b2 b3
        go_wp2_with fail
        refine HF.out.mono ?_
        rintro _ w5 ⟨e, rfl, _, hmb⟩
        have HQ5 := Lib.hid (HB3.out.1 w5 _ _ hmb)
        have hnd := HB3.out.2
        clear hmb HF rc s1 lc ls hi'
        have hwi : IntKind.i64.wrap ((i : Int) + 1) = ((i + 1 : Nat) : Int) := by rw [IntWalk.i64_in _ (by omega)]; rfl
        go_wp2_with fail
        go_roundg (ys.length - (i + 1))
        case measure => omega
        case rel =>
          refine ⟨i + 1, _, _, by go_num, by omega, HQ5.out, fun f => ?_, fun f hf p => ?_, rfl⟩
          · rw [hnd.mem_erase_iff, HH.out f, HTK.out, List.mem_append, List.mem_singleton]
            constructor
            · rintro ⟨h1, h2, h3⟩
              exact ⟨h2, fun h => h.elim h3 h1⟩
            · rintro ⟨h1, h2⟩
              exact ⟨fun e => h2 (.inr e), h1, fun e => h2 (.inl e)⟩
          · rw [HTK.out, List.mem_append, List.mem_singleton] at hf
            have h1 : f ≠ x := fun e => hf (.inr e)
            have h2 : f ∉ ys.take i := fun e => hf (.inl e)
            rw [← HMM.out f h2 p]
            split
            · unfold scrE; rw [if_neg h1]
            · rfl
      · obtain rfl : i = ys.length := by omega
        have htk : ys.take ys.length = ys := List.take_of_length_le (Nat.le_refl _)
        have hbb := HQ.out.kn (.head _)
        have o0 : wr.cell? ⟨w.heap.size, 0, none⟩ = some v2 := cell_of_ob hbb 0
        have lo := ob_lt hbb
        clear hbb
        go_wp2_with fail
        go_ret
        refine ⟨_, M', H', rfl, HQ.out.toMB, fun f => ?_, fun f hf p => HMM.out f ?_ p⟩
        · rw [HH.out f, htk]
          constructor
          · rintro ⟨h1, h2⟩
            refine ⟨h1, ?_⟩
            cases e : lv f with
            | none => rfl
            | some l => exact absurd ((HY.out f).2 (by rw [e]; simp)) h2
          · rintro ⟨h1, h2⟩
            exact ⟨h1, fun h => (HY.out f).1 h h2⟩
        · rw [htk]
          intro h
          exact (HY.out f).1 h hf
end Go.Proofs.Ytehmjjfgefopdaa
