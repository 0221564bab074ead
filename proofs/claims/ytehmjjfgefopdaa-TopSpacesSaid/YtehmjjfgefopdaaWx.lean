import Derived.Test.YtehmjjfgefopdaaWw
namespace Go.Proofs.Ytehmjjfgefopdaa
open Go.RowKit
set_option linter.unusedSimpArgs false
set_option linter.unusedVariables false
attribute [local go_sem] ob_alloc ob_drew ob_drewN ob_setCell ob_setBlock objSet_cells obMap_map obClock_map isMapI_map keyI_mk findI_nil findI_cons lookRes_some lookRes_none lookRes_some' lookRes_none' setBlock_alloc mapPut

/-! ### what each hands to its function -/
def oneE (b : Bool) (e : EN) : List Nat := if e.v && (e.t == b) then [e.f] else []
def eS (b : Bool) (M : Nat → Nat → EN) : Nat → Nat → Nat → List Nat
  | 0, f, p => oneE b (M f p)
  | d + 1, f, p => oneE b (M f p) ++ (if (M f p).v && (M f p).t then (List.range 16).flatMap (eS b M d (M f p).f) else [])
def eK (b : Bool) (M : Nat → Nat → EN) (d f k : Nat) : List Nat := (List.range k).flatMap (eS b M d f)
theorem eK_succ (b : Bool) (M : Nat → Nat → EN) (d f k : Nat) : eK b M d f (k + 1) = eK b M d f k ++ eS b M d f k := by
  unfold eK; rw [List.range_succ, List.flatMap_append]; simp
theorem oneE_len (b : Bool) (e : EN) : (oneE b e).length ≤ 1 := by unfold oneE; split <;> simp
def eB : Nat → Nat
  | 0 => 1
  | d + 1 => 1 + 16 * eB d
theorem flat_len {f : Nat → List Nat} {B : Nat} (h : ∀ p, (f p).length ≤ B) : ∀ k, ((List.range k).flatMap f).length ≤ k * B
  | 0 => by simp
  | k + 1 => by
    rw [List.range_succ, List.flatMap_append, List.length_append, Nat.add_mul]
    have := flat_len h k
    have := h k
    simp only [List.flatMap_cons, List.flatMap_nil, List.append_nil]
    omega
theorem eS_len (b : Bool) (M : Nat → Nat → EN) : ∀ d f p, (eS b M d f p).length ≤ eB d
  | 0, f, p => oneE_len _ _
  | d + 1, f, p => by
    rw [eS, List.length_append, eB]
    have h1 := oneE_len b (M f p)
    have h2 : (if (M f p).v && (M f p).t then (List.range 16).flatMap (eS b M d (M f p).f) else []).length ≤ 16 * eB d := by
      split
      · exact flat_len (eS_len b M d _) 16
      · simp
    omega
theorem eK_len (b : Bool) (M : Nat → Nat → EN) (d f k : Nat) : (eK b M d f k).length ≤ k * eB d := flat_len (eS_len b M d f) k
/-- a row that a closure fills -/
structure KO (w0 w : World) (ox : Nat) (v : Value) (xs : List Nat) : Prop where
  row : RowE E3 3 w w0.heap.size v xs
  bx : ob w ox = some (.cells #[v] 22 (0, 0))
  kp : Keep [] w0 w
  ge : w0.heap.size ≤ ox
section
variable {w0 w w' : World} {ox : Nat} {v : Value} {xs : List Nat}
theorem KO.new (h : KO w0 w ox v xs) (k : Keep [] w w') : KO w0 w' ox v xs := ⟨h.row.keep k (by simp), k.kp h.bx (by simp), h.kp.trans k, h.ge⟩
theorem KO.push (h : KO w0 w ox v xs) (x : Nat) (hl : xs.length ≤ 900000) :
    ∃ va vc w2, (∀ ty, (Builtin.append_ #[22, 22] ty #[v, .slice (some ⟨w.heap.size, 0, none⟩) 1 1]).run Try.prog (w.alloc (.cells #[.int .i64 (x : Int)] 3)) = .ok (.slice va (xs.length + 1) vc) w2) ∧ RowE E3 3 w2 w0.heap.size (.slice va (xs.length + 1) vc) (xs ++ [x]) ∧ ob w2 ox = some (.cells #[v] 22 (0, 0)) ∧ Keep [] w0 w2 ∧ Keep v.ownBlock.toList w w2 := by
  have kA : Keep [] w (w.alloc (.cells #[.int .i64 (x : Int)] 3)) := (Keep.refl _ _).alloc _
  have hsz := h.kp.size
  have h1 := h.new kA
  obtain ⟨va, vc, w2, g1, g2, g3, g4⟩ := h1.row.push (P := Try.prog) Try.underlying22 info3 rfl (by omega) x (b := w.heap.size) (al_new w (.cells #[.int .i64 (x : Int)] 3) rfl) 1 (by omega) (by omega) (by simp; omega)
  refine ⟨va, vc, w2, g1, g2, g3.kp h1.bx (fun hm => ?_), h1.kp.andThen g3 (fun b hb => ?_), (kA.mono (by simp)).trans g3⟩
  · simp only [Option.mem_toList] at hm
    obtain ⟨cs, ho⟩ := row_ob h1.row hm
    rw [h1.bx] at ho
    simp at ho
  · simp only [Option.mem_toList] at hb
    exact .inr (ownBlock_ge h1.row hb)
theorem KO.lay {w2 : World} {xs' : List Nat} {v' : Value} (hr : RowE E3 3 w2 w0.heap.size v' xs') (hb : ob w2 ox = some (.cells #[v] 22 (0, 0))) (hk : Keep [] w0 w2) (hg : w0.heap.size ≤ ox) : KO w0 (w2.setCell ⟨ox, 0, none⟩ v') ox v' xs' :=
  ⟨hr.keep (S := [ox]) ((Keep.refl _ _).setCell (.inl (by simp)) _ _) (fun b hb2 hm => by
    simp only [List.mem_singleton] at hm
    subst hm
    obtain ⟨cs, ho⟩ := row_ob hr hb2
    rw [hb] at ho
    simp at ho), st_same hb, hk.setCell (.inr hg) _ _, hg⟩
end
theorem en28 (args : Array Value) (w : World) : (callFunc 28 args).run Try.prog w = .ok (.enter 28 args) w := by go_simp
set_option maxRecDepth 100000 in
set_option maxHeartbeats 1000000 in
theorem clo28 (w0 w : World) (ox : Nat) (v : Value) (xs : List Nat) (h : KO w0 w ox v xs) (hl : xs.length ≤ 900000) (l p : Int) (e : EN) :
    Calls Try.prog 28 #[.int .i64 l, .int .i64 p, .agg #[.bool e.v, .bool e.w, .bool e.t, .int .i64 (e.f : Int)], .pointer (some ⟨ox, 0, none⟩)] w fun o w' => o = .returned (.tuple #[]) ∧ Keep (ox :: v.ownBlock.toList) w w' ∧ ∃ v', KO w0 w' ox v' (xs ++ if e.t == true then [e.f] else []) := by
  obtain ⟨ev, ew, et, ef⟩ := e
  have HB := Lib.hid (al_new w (.cells #[.bool ev, .bool ew, .bool et, .int .i64 (ef : Int)] 38) rfl)
  have HK := Lib.hid (h.new ((Keep.refl _ _).alloc (.cells #[.bool ev, .bool ew, .bool et, .int .i64 (ef : Int)] 38)))
  have KA : Hid (Keep [] w (w.alloc (.cells #[.bool ev, .bool ew, .bool et, .int .i64 (ef : Int)] 38))) := Lib.hid ((Keep.refl _ _).alloc _)
  clear h
  simp only
  go_enter Try.func28, Try.ntmps28
  go_upto_region 1 with fail
  generalize w.alloc (.cells #[.bool ev, .bool ew, .bool et, .int .i64 (ef : Int)] 38) = w1 at *
  generalize w.heap.size = eb at *
  have r2 : w1.cell? ⟨eb, 2, none⟩ = some (.bool et) := cell_of_ob HB.out 2
  have r3 : w1.cell? ⟨eb, 3, none⟩ = some (.int .i64 (ef : Int)) := cell_of_ob HB.out 3
  have le := ob_lt HB.out
  obtain ⟨la, lc, rfl⟩ := HK.out.row.slice
  have o0 : w1.cell? ⟨ox, 0, none⟩ = some (.slice la xs.length lc) := cell_of_ob HK.out.bx 0
  have lo := ob_lt HK.out.bx
  cases et with
  | false =>
    go_wp2_with fail
    go_end0
    exact ⟨rfl, KA.out.mono (by simp), _, by simpa using HK.out⟩
  | true =>
    obtain ⟨va, vc, w3, happ, hr3, hb3, hk3, hk4⟩ := HK.out.push ef hl
    have q0 := free_of_ob hb3 0
    have o3 : w3.cell? ⟨ox, 0, none⟩ = some (.slice la xs.length lc) := cell_of_ob hb3 0
    have lo3 := ob_lt hb3
    have HH := Lib.hid (KO.lay hr3 hb3 hk3 HK.out.ge)
    have HKK := Lib.hid ((KA.out.mono (T := (Value.slice la xs.length lc).ownBlock.toList) (by simp)).trans hk4)
    clear hr3 hb3 hk3 hk4
    go_wp2_with (at_builtin; refine wpList_append_eq rfl _ _ _ rfl rfl rfl (happ _) ?_)
    go_end0
    exact ⟨rfl, (HKK.out.mono (fun b hb => List.mem_cons_of_mem _ hb)).setCell (.inl (by simp)) _ _, _, HH.out⟩
def cV28 (ox : Nat) : Value := .func (.func 28) #[] #[.pointer (some ⟨ox, 0, none⟩)]
def EachS28 (w0 : World) (sp : Nat) (M : Nat → Nat → EN) (lv : LV) (d : Nat) : Prop := ∀ (w : World) (ox : Nat) (v : Value) (xs : List Nat) (f l : Nat) (li pi : Int), lv f = some l → l + d = 2 → KO w0 w ox v xs → xs.length + 16 * eB d ≤ 900000 →
    Calls Try.prog 27 #[.pointer (some ⟨sp, 0, none⟩), .int .i64 (f : Int), .int .i64 li, .int .i64 pi, cV28 ox] w fun o w' => o = .returned (.tuple #[]) ∧ ∃ v', KO w0 w' ox v' (xs ++ eK true M d f 16)
set_option maxRecDepth 100000 in
set_option maxHeartbeats 2000000 in
theorem eachC28 (w0 : World) (m bd g n r sp : Nat) (M : Nat → Nat → EN) (hM : MemE w0 m g n M) (hs : ob w0 sp = some (spO m bd r)) (lv : LV) (hS : Sp M r lv) (hn : ∀ f, lv f ≠ none → f < n) (d : Nat) (w : World) (ox : Nat) (v : Value) (xs : List Nat) (f l : Nat) (li pi : Int) (hfl : lv f = some l) (hld : l + d = 2) (hKO : KO w0 w ox v xs) (hlen : xs.length + 16 * eB d ≤ 900000)
    (ih : ∀ d', d = d' + 1 → EachS28 w0 sp M lv d') :
    Calls Try.prog 27 #[.pointer (some ⟨sp, 0, none⟩), .int .i64 (f : Int), .int .i64 li, .int .i64 pi, cV28 ox] w fun o w' => o = .returned (.tuple #[]) ∧ ∃ v', KO w0 w' ox v' (xs ++ eK true M d f 16) := by
  have HM := Lib.hid hM
  have HS := Lib.hid hs
  have HSP := Lib.hid hS
  have HIH := Lib.hid ih
  have HKO := Lib.hid hKO
  have HFN := Lib.hid (hn f (by rw [hfl]; simp))
  have hen := en28
  clear hM hs hS ih hKO hn
  unfold cV28
  go_enter Try.func27, Try.ntmps27
  go_wp2_with fail
  go_loopg [14] 16 (fun gn s14 wr => ∃ (k : Nat) (v' : Value), s14 = .int .i64 (k : Int) ∧ k ≤ 16 ∧ KO w0 wr ox v' (xs ++ eK true M d f k) ∧ gn = 16 - k)
  case atStart => exact ⟨0, v, rfl, by omega, by simpa [eK] using HKO.out, rfl⟩
  case round =>
    clear HKO
    obtain ⟨k, v', rfl, hk, hK, hgk⟩ := hrel
    have HK := Lib.hid hK
    clear hK
    have hkl := eK_len true M d f k
    have hxl : (xs ++ eK true M d f k).length ≤ 900000 := by
      rw [List.length_append]
      have := Nat.mul_le_mul_right (eB d) hk
      omega
    by_cases hlt : k < 16
    · have hlt' : (k : Int) < 16 := by omega
      have hs1 := HK.out.kp.kp HS.out (by simp)
      have s0 : wr.cell? ⟨sp, 0, none⟩ = some (.pointer (some ⟨m, 0, none⟩)) := cell_of_ob hs1 0
      have ls := ob_lt hs1
      clear hs1
      go_wp2_with fail
      refine (pGet wr m g n M (HM.out.keep HK.out.kp (by simp) (by simp)) f k HFN.out hlt).mono ?_
      rintro _ w4 ⟨rfl, hk4⟩
      obtain ⟨e, he⟩ : ∃ e, M f k = e := ⟨_, rfl⟩
      have HE := Lib.hid he
      rw [he]
      obtain ⟨ev, ew, et, ef⟩ := e
      unfold EN.val
      simp only
      have HK5 := Lib.hid ((HK.out.new hk4).new ((Keep.refl [] w4).alloc (.cells #[.bool ev, .bool ew, .bool et, .int .i64 (ef : Int)] 38)))
      have HC5 := Lib.hid (al_new w4 (.cells #[.bool ev, .bool ew, .bool et, .int .i64 (ef : Int)] 38) rfl)
      clear hk4 HK he s0 ls
      go_upto_region 4 with fail
      generalize w4.alloc (.cells #[.bool ev, .bool ew, .bool et, .int .i64 (ef : Int)] 38) = w5 at *
      generalize w4.heap.size = ci at *
      have r0 := cell_of_ob HC5.out 0
      have r1 := cell_of_ob HC5.out 1
      have r2 := cell_of_ob HC5.out 2
      have r3 := cell_of_ob HC5.out 3
      simp only [List.getElem?_toArray, List.getElem?_cons_zero, List.getElem?_cons_succ] at r0 r1 r2 r3
      have lc := ob_lt HC5.out
      cases ev with
      | false =>
        have HZ : Hid (eK true M d f (k + 1) = eK true M d f k) := Lib.hid (by
          rw [eK_succ]
          have : eS true M d f k = [] := by cases d <;> simp [eS, oneE, HE.out]
          rw [this]; simp)
        go_wp2_with fail
        go_roundg (16 - (k + 1))
        case measure => omega
        case rel => exact ⟨k + 1, v', by go_num, by omega, by rw [HZ.out]; exact HK5.out, rfl⟩
      | true =>
        go_wp2_with fail
        refine (clo28 w0 w5 ox v' _ HK5.out hxl _ _ ⟨true, ew, et, ef⟩).mono ?_
        rintro _ w6 ⟨rfl, hk6, v6, hKO6⟩
        have HK6 := Lib.hid hKO6
        have HC6 := Lib.hid (hk6.kp HC5.out (fun hm => by
          simp only [List.mem_cons, Option.mem_toList] at hm
          rcases hm with e | e
          · have := HC5.out
            rw [e, HK5.out.bx] at this
            simp at this
          · obtain ⟨cs, ho⟩ := row_ob HK5.out.row e
            rw [HC5.out] at ho
            simp at ho))
        clear hk6 hKO6 HK5 HC5 r0 r1 r2 r3 lc
        have r2 := cell_of_ob HC6.out 2
        have r3 := cell_of_ob HC6.out 3
        simp only [List.getElem?_toArray, List.getElem?_cons_zero, List.getElem?_cons_succ] at r2 r3
        have lc := ob_lt HC6.out
        have HT := Lib.hid (HSP.out.tab f l hfl k hlt (by rw [HE.out]))
        cases et with
        | false =>
          have HZ : Hid (eK true M d f (k + 1) = eK true M d f k ++ ([] : List Nat)) := Lib.hid (by
            rw [eK_succ]
            congr 1
            cases d <;> simp [eS, oneE, HE.out])
          go_wp2_with fail
          go_roundg (16 - (k + 1))
          case measure => omega
          case rel => exact ⟨k + 1, v6, by go_num, by omega, by rw [HZ.out, ← List.append_assoc]; exact HK6.out, rfl⟩
        | true =>
          have hl2 : l < 2 := by
            have := HT.out.1
            rw [HE.out] at this
            simpa using this
          obtain ⟨d', rfl⟩ : ∃ d', d = d' + 1 := ⟨d - 1, by omega⟩
          have hch : lv ef = some (l + 1) := by
            have := HT.out.2 hl2
            rw [HE.out] at this
            exact this
          have HZ : Hid (eK true M (d' + 1) f (k + 1) = eK true M (d' + 1) f k ++ [ef] ++ eK true M d' ef 16) := Lib.hid (by
            rw [eK_succ, List.append_assoc]
            congr 1
            simp [eS, oneE, HE.out, eK])
          have hIH := HIH.out d' rfl
          unfold EachS28 cV28 at hIH
          have HI := Lib.hid hIH
          clear hIH
          go_wp2_with fail
          refine (HI.out w6 ox v6 _ ef (l + 1) _ _ hch (by omega) HK6.out ?_).mono ?_
          · rw [List.length_append, List.length_append]
            have h1 := eK_len true M (d' + 1) f k
            have h2 := Nat.mul_le_mul_right (eB (d' + 1)) (show k + 1 ≤ 16 by omega)
            have h3 : ([ef] : List Nat).length ≤ 1 := by simp
            have h4 : (if (true == true) = true then [ef] else []).length ≤ 1 := by simp
            rw [Nat.add_mul] at h2
            have h5 : eB (d' + 1) = 1 + 16 * eB d' := rfl
            omega
          · rintro _ w7 ⟨rfl, v7, hK7⟩
            have HK7 := Lib.hid hK7
            clear hK7 HI
            go_wp2_with fail
            go_roundg (16 - (k + 1))
            case measure => omega
            case rel => exact ⟨k + 1, v7, by go_num, by omega, by rw [HZ.out, ← List.append_assoc, ← List.append_assoc]; exact HK7.out, rfl⟩
    · obtain rfl : k = 16 := by omega
      go_wp2_with fail
      go_end0
      exact ⟨rfl, v', HK.out⟩
set_option maxRecDepth 100000 in
set_option maxHeartbeats 2000000 in
theorem each28 (w0 : World) (m bd g n r sp : Nat) (M : Nat → Nat → EN) (hM : MemE w0 m g n M) (hs : ob w0 sp = some (spO m bd r)) (lv : LV) (hS : Sp M r lv) (hn : ∀ f, lv f ≠ none → f < n) : ∀ (d : Nat) (w : World) (ox : Nat) (v : Value) (xs : List Nat) (f l : Nat) (li pi : Int), lv f = some l → l + d = 2 → KO w0 w ox v xs → xs.length + 16 * eB d ≤ 900000 →
    Calls Try.prog 27 #[.pointer (some ⟨sp, 0, none⟩), .int .i64 (f : Int), .int .i64 li, .int .i64 pi, cV28 ox] w fun o w' => o = .returned (.tuple #[]) ∧ ∃ v', KO w0 w' ox v' (xs ++ eK true M d f 16) := by
  intro d
  induction d with
  | zero =>
    intro w ox v xs f l li pi hfl hld hKO hlen
    obtain rfl : l = 2 := by omega
    exact eachC28 w0 m bd g n r sp M hM hs lv hS hn 0 w ox v xs f 2 li pi hfl hld hKO hlen (fun d' hd => by omega)
  | succ d ih =>
    intro w ox v xs f l li pi hfl hld hKO hlen
    exact eachC28 w0 m bd g n r sp M hM hs lv hS hn (d + 1) w ox v xs f l li pi hfl hld hKO hlen (fun d' hd => by
      obtain rfl : d' = d := by omega
      exact ih)
theorem en30 (args : Array Value) (w : World) : (callFunc 30 args).run Try.prog w = .ok (.enter 30 args) w := by go_simp
set_option maxRecDepth 100000 in
set_option maxHeartbeats 1000000 in
theorem clo30 (w0 w : World) (ox : Nat) (v : Value) (xs : List Nat) (h : KO w0 w ox v xs) (hl : xs.length ≤ 900000) (l p : Int) (e : EN) :
    Calls Try.prog 30 #[.int .i64 l, .int .i64 p, .agg #[.bool e.v, .bool e.w, .bool e.t, .int .i64 (e.f : Int)], .pointer (some ⟨ox, 0, none⟩)] w fun o w' => o = .returned (.tuple #[]) ∧ Keep (ox :: v.ownBlock.toList) w w' ∧ ∃ v', KO w0 w' ox v' (xs ++ if e.t == false then [e.f] else []) := by
  obtain ⟨ev, ew, et, ef⟩ := e
  have HB := Lib.hid (al_new w (.cells #[.bool ev, .bool ew, .bool et, .int .i64 (ef : Int)] 38) rfl)
  have HK := Lib.hid (h.new ((Keep.refl _ _).alloc (.cells #[.bool ev, .bool ew, .bool et, .int .i64 (ef : Int)] 38)))
  have KA : Hid (Keep [] w (w.alloc (.cells #[.bool ev, .bool ew, .bool et, .int .i64 (ef : Int)] 38))) := Lib.hid ((Keep.refl _ _).alloc _)
  clear h
  simp only
  go_enter Try.func30, Try.ntmps30
  go_upto_region 1 with fail
  generalize w.alloc (.cells #[.bool ev, .bool ew, .bool et, .int .i64 (ef : Int)] 38) = w1 at *
  generalize w.heap.size = eb at *
  have r2 : w1.cell? ⟨eb, 2, none⟩ = some (.bool et) := cell_of_ob HB.out 2
  have r3 : w1.cell? ⟨eb, 3, none⟩ = some (.int .i64 (ef : Int)) := cell_of_ob HB.out 3
  have le := ob_lt HB.out
  obtain ⟨la, lc, rfl⟩ := HK.out.row.slice
  have o0 : w1.cell? ⟨ox, 0, none⟩ = some (.slice la xs.length lc) := cell_of_ob HK.out.bx 0
  have lo := ob_lt HK.out.bx
  cases et with
  | true =>
    go_wp2_with fail
    go_end0
    exact ⟨rfl, KA.out.mono (by simp), _, by simpa using HK.out⟩
  | false =>
    obtain ⟨va, vc, w3, happ, hr3, hb3, hk3, hk4⟩ := HK.out.push ef hl
    have q0 := free_of_ob hb3 0
    have o3 : w3.cell? ⟨ox, 0, none⟩ = some (.slice la xs.length lc) := cell_of_ob hb3 0
    have lo3 := ob_lt hb3
    have HH := Lib.hid (KO.lay hr3 hb3 hk3 HK.out.ge)
    have HKK := Lib.hid ((KA.out.mono (T := (Value.slice la xs.length lc).ownBlock.toList) (by simp)).trans hk4)
    clear hr3 hb3 hk3 hk4
    go_wp2_with (at_builtin; refine wpList_append_eq rfl _ _ _ rfl rfl rfl (happ _) ?_)
    go_end0
    exact ⟨rfl, (HKK.out.mono (fun b hb => List.mem_cons_of_mem _ hb)).setCell (.inl (by simp)) _ _, _, HH.out⟩
def cV30 (ox : Nat) : Value := .func (.func 30) #[] #[.pointer (some ⟨ox, 0, none⟩)]
def EachS30 (w0 : World) (sp : Nat) (M : Nat → Nat → EN) (lv : LV) (d : Nat) : Prop := ∀ (w : World) (ox : Nat) (v : Value) (xs : List Nat) (f l : Nat) (li pi : Int), lv f = some l → l + d = 2 → KO w0 w ox v xs → xs.length + 16 * eB d ≤ 900000 →
    Calls Try.prog 27 #[.pointer (some ⟨sp, 0, none⟩), .int .i64 (f : Int), .int .i64 li, .int .i64 pi, cV30 ox] w fun o w' => o = .returned (.tuple #[]) ∧ ∃ v', KO w0 w' ox v' (xs ++ eK false M d f 16)
set_option maxRecDepth 100000 in
set_option maxHeartbeats 2000000 in
theorem eachC30 (w0 : World) (m bd g n r sp : Nat) (M : Nat → Nat → EN) (hM : MemE w0 m g n M) (hs : ob w0 sp = some (spO m bd r)) (lv : LV) (hS : Sp M r lv) (hn : ∀ f, lv f ≠ none → f < n) (d : Nat) (w : World) (ox : Nat) (v : Value) (xs : List Nat) (f l : Nat) (li pi : Int) (hfl : lv f = some l) (hld : l + d = 2) (hKO : KO w0 w ox v xs) (hlen : xs.length + 16 * eB d ≤ 900000)
    (ih : ∀ d', d = d' + 1 → EachS30 w0 sp M lv d') :
    Calls Try.prog 27 #[.pointer (some ⟨sp, 0, none⟩), .int .i64 (f : Int), .int .i64 li, .int .i64 pi, cV30 ox] w fun o w' => o = .returned (.tuple #[]) ∧ ∃ v', KO w0 w' ox v' (xs ++ eK false M d f 16) := by
  have HM := Lib.hid hM
  have HS := Lib.hid hs
  have HSP := Lib.hid hS
  have HIH := Lib.hid ih
  have HKO := Lib.hid hKO
  have HFN := Lib.hid (hn f (by rw [hfl]; simp))
  have hen := en30
  clear hM hs hS ih hKO hn
  unfold cV30
  go_enter Try.func27, Try.ntmps27
  go_wp2_with fail
  go_loopg [14] 16 (fun gn s14 wr => ∃ (k : Nat) (v' : Value), s14 = .int .i64 (k : Int) ∧ k ≤ 16 ∧ KO w0 wr ox v' (xs ++ eK false M d f k) ∧ gn = 16 - k)
  case atStart => exact ⟨0, v, rfl, by omega, by simpa [eK] using HKO.out, rfl⟩
  case round =>
    clear HKO
    obtain ⟨k, v', rfl, hk, hK, hgk⟩ := hrel
    have HK := Lib.hid hK
    clear hK
    have hkl := eK_len false M d f k
    have hxl : (xs ++ eK false M d f k).length ≤ 900000 := by
      rw [List.length_append]
      have := Nat.mul_le_mul_right (eB d) hk
      omega
    by_cases hlt : k < 16
    · have hlt' : (k : Int) < 16 := by omega
      have hs1 := HK.out.kp.kp HS.out (by simp)
      have s0 : wr.cell? ⟨sp, 0, none⟩ = some (.pointer (some ⟨m, 0, none⟩)) := cell_of_ob hs1 0
      have ls := ob_lt hs1
      clear hs1
      go_wp2_with fail
      refine (pGet wr m g n M (HM.out.keep HK.out.kp (by simp) (by simp)) f k HFN.out hlt).mono ?_
      rintro _ w4 ⟨rfl, hk4⟩
      obtain ⟨e, he⟩ : ∃ e, M f k = e := ⟨_, rfl⟩
      have HE := Lib.hid he
      rw [he]
      obtain ⟨ev, ew, et, ef⟩ := e
      unfold EN.val
      simp only
      have HK5 := Lib.hid ((HK.out.new hk4).new ((Keep.refl [] w4).alloc (.cells #[.bool ev, .bool ew, .bool et, .int .i64 (ef : Int)] 38)))
      have HC5 := Lib.hid (al_new w4 (.cells #[.bool ev, .bool ew, .bool et, .int .i64 (ef : Int)] 38) rfl)
      clear hk4 HK he s0 ls
      go_upto_region 4 with fail
      generalize w4.alloc (.cells #[.bool ev, .bool ew, .bool et, .int .i64 (ef : Int)] 38) = w5 at *
      generalize w4.heap.size = ci at *
      have r0 := cell_of_ob HC5.out 0
      have r1 := cell_of_ob HC5.out 1
      have r2 := cell_of_ob HC5.out 2
      have r3 := cell_of_ob HC5.out 3
      simp only [List.getElem?_toArray, List.getElem?_cons_zero, List.getElem?_cons_succ] at r0 r1 r2 r3
      have lc := ob_lt HC5.out
      cases ev with
      | false =>
        have HZ : Hid (eK false M d f (k + 1) = eK false M d f k) := Lib.hid (by
          rw [eK_succ]
          have : eS false M d f k = [] := by cases d <;> simp [eS, oneE, HE.out]
          rw [this]; simp)
        go_wp2_with fail
        go_roundg (16 - (k + 1))
        case measure => omega
        case rel => exact ⟨k + 1, v', by go_num, by omega, by rw [HZ.out]; exact HK5.out, rfl⟩
      | true =>
        go_wp2_with fail
        refine (clo30 w0 w5 ox v' _ HK5.out hxl _ _ ⟨true, ew, et, ef⟩).mono ?_
        rintro _ w6 ⟨rfl, hk6, v6, hKO6⟩
        have HK6 := Lib.hid hKO6
        have HC6 := Lib.hid (hk6.kp HC5.out (fun hm => by
          simp only [List.mem_cons, Option.mem_toList] at hm
          rcases hm with e | e
          · have := HC5.out
            rw [e, HK5.out.bx] at this
            simp at this
          · obtain ⟨cs, ho⟩ := row_ob HK5.out.row e
            rw [HC5.out] at ho
            simp at ho))
        clear hk6 hKO6 HK5 HC5 r0 r1 r2 r3 lc
        have r2 := cell_of_ob HC6.out 2
        have r3 := cell_of_ob HC6.out 3
        simp only [List.getElem?_toArray, List.getElem?_cons_zero, List.getElem?_cons_succ] at r2 r3
        have lc := ob_lt HC6.out
        have HT := Lib.hid (HSP.out.tab f l hfl k hlt (by rw [HE.out]))
        cases et with
        | false =>
          have HZ : Hid (eK false M d f (k + 1) = eK false M d f k ++ [ef]) := Lib.hid (by
            rw [eK_succ]
            congr 1
            cases d <;> simp [eS, oneE, HE.out])
          go_wp2_with fail
          go_roundg (16 - (k + 1))
          case measure => omega
          case rel => exact ⟨k + 1, v6, by go_num, by omega, by rw [HZ.out, ← List.append_assoc]; exact HK6.out, rfl⟩
        | true =>
          have hl2 : l < 2 := by
            have := HT.out.1
            rw [HE.out] at this
            simpa using this
          obtain ⟨d', rfl⟩ : ∃ d', d = d' + 1 := ⟨d - 1, by omega⟩
          have hch : lv ef = some (l + 1) := by
            have := HT.out.2 hl2
            rw [HE.out] at this
            exact this
          have HZ : Hid (eK false M (d' + 1) f (k + 1) = eK false M (d' + 1) f k ++ ([] : List Nat) ++ eK false M d' ef 16) := Lib.hid (by
            rw [eK_succ, List.append_assoc]
            congr 1
            simp [eS, oneE, HE.out, eK])
          have hIH := HIH.out d' rfl
          unfold EachS30 cV30 at hIH
          have HI := Lib.hid hIH
          clear hIH
          go_wp2_with fail
          refine (HI.out w6 ox v6 _ ef (l + 1) _ _ hch (by omega) HK6.out ?_).mono ?_
          · rw [List.length_append, List.length_append]
            have h1 := eK_len false M (d' + 1) f k
            have h2 := Nat.mul_le_mul_right (eB (d' + 1)) (show k + 1 ≤ 16 by omega)
            have h3 : (([] : List Nat) : List Nat).length ≤ 1 := by simp
            have h4 : (if (true == false) = true then [ef] else []).length ≤ 1 := by simp
            rw [Nat.add_mul] at h2
            have h5 : eB (d' + 1) = 1 + 16 * eB d' := rfl
            omega
          · rintro _ w7 ⟨rfl, v7, hK7⟩
            have HK7 := Lib.hid hK7
            clear hK7 HI
            go_wp2_with fail
            go_roundg (16 - (k + 1))
            case measure => omega
            case rel => exact ⟨k + 1, v7, by go_num, by omega, by rw [HZ.out, ← List.append_assoc, ← List.append_assoc]; exact HK7.out, rfl⟩
    · obtain rfl : k = 16 := by omega
      go_wp2_with fail
      go_end0
      exact ⟨rfl, v', HK.out⟩
set_option maxRecDepth 100000 in
set_option maxHeartbeats 2000000 in
theorem each30 (w0 : World) (m bd g n r sp : Nat) (M : Nat → Nat → EN) (hM : MemE w0 m g n M) (hs : ob w0 sp = some (spO m bd r)) (lv : LV) (hS : Sp M r lv) (hn : ∀ f, lv f ≠ none → f < n) : ∀ (d : Nat) (w : World) (ox : Nat) (v : Value) (xs : List Nat) (f l : Nat) (li pi : Int), lv f = some l → l + d = 2 → KO w0 w ox v xs → xs.length + 16 * eB d ≤ 900000 →
    Calls Try.prog 27 #[.pointer (some ⟨sp, 0, none⟩), .int .i64 (f : Int), .int .i64 li, .int .i64 pi, cV30 ox] w fun o w' => o = .returned (.tuple #[]) ∧ ∃ v', KO w0 w' ox v' (xs ++ eK false M d f 16) := by
  intro d
  induction d with
  | zero =>
    intro w ox v xs f l li pi hfl hld hKO hlen
    obtain rfl : l = 2 := by omega
    exact eachC30 w0 m bd g n r sp M hM hs lv hS hn 0 w ox v xs f 2 li pi hfl hld hKO hlen (fun d' hd => by omega)
  | succ d ih =>
    intro w ox v xs f l li pi hfl hld hKO hlen
    exact eachC30 w0 m bd g n r sp M hM hs lv hS hn (d + 1) w ox v xs f l li pi hfl hld hKO hlen (fun d' hd => by
      obtain rfl : d' = d := by omega
      exact ih)
end Go.Proofs.Ytehmjjfgefopdaa
