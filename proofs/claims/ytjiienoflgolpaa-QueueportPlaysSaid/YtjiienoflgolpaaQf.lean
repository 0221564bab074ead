import Derived.Test.YtjiienoflgolpaaQd
import Derived.Deep.QuietTactic
namespace Go.Proofs.Ytjiienoflgolpaa
open Go.RowKit
set_option linter.unusedSimpArgs false
set_option linter.unusedVariables false
open Go.Conc
attribute [local go_sem] ob_alloc ob_drew ob_drewN ob_setCell ob_setBlock objSet_cells obMap_map obClock_map isMapI_map keyI_mk findI_nil findI_cons lookRes_some lookRes_none lookRes_some' lookRes_none' setBlock_alloc mapPut

theorem RdU.pos {w : World} {v : Value} {xs : List Int} (h : RdU w v xs) (h0 : 0 < xs.length) :
    ∃ b off cap, v = .slice (some ⟨b, off, none⟩) xs.length cap ∧ xs.length ≤ cap ∧ cap ≤ maxLen ∧ ∀ i, i < xs.length → w.cell? ⟨b, off + i, none⟩ = some (.int .u64 (xs.getD i 0)) := by
  obtain ⟨b, off, cap, hv, h1, h2, h3⟩ := Rd.pos h (by rw [u64s_length]; exact h0)
  rw [u64s_length] at hv h1
  exact ⟨b, off, cap, hv, h1, h2, fun i hi => h3 i _ (by simp [u64s, hi])⟩
theorem RdU.zero {w : World} {v : Value} {xs : List Int} (h : RdU w v xs) (h0 : xs.length = 0) : ∃ ao cap, v = .slice ao 0 cap := by
  obtain ⟨a, cap, hv, _⟩ := Rd.len h
  rw [u64s_length, h0] at hv
  exact ⟨a, cap, hv⟩
theorem RdU.len {w : World} {v : Value} {xs : List Int} (h : RdU w v xs) : ∃ a cap, v = .slice a xs.length cap ∧ xs.length ≤ maxLen := by
  obtain ⟨a, cap, hv, h1, h2⟩ := Rd.len h
  rw [u64s_length] at hv h1
  exact ⟨a, cap, hv, by omega⟩

set_option maxRecDepth 100000 in
set_option maxHeartbeats 400000 in
theorem same_len (w : World) (a b : Option Addr) (n m c d : Nat) (h : n ≠ m) (hn : n ≤ maxLen) (hm : m ≤ maxLen) :
    Calls Try.prog 20 #[.slice a n c, .slice b m d] w fun o w' => o = .returned (.bool false) ∧ Keep [] w w' := by
  unfold maxLen at hn hm
  have h1 : ((n : Int) != (m : Int)) = true := by rw [bne_iff_ne]; omega
  go_enter Try.func20, Try.ntmps20
  go_wp2
  go_ret
  exact ⟨rfl, Keep.refl _ _⟩

set_option maxRecDepth 100000 in
set_option maxHeartbeats 400000 in
theorem same_zero (w : World) (a b : Option Addr) (c d : Nat) :
    Calls Try.prog 20 #[.slice a 0 c, .slice b 0 d] w fun o w' => o = .returned (.bool true) ∧ Keep [] w w' := by
  go_enter Try.func20, Try.ntmps20
  go_wp2
  go_loop [5] (fun i => i = .int .i64 0) (fun _ => 0)
  case atStart => rfl
  case round =>
    subst hrel
    go_wp2
    go_ret
    exact ⟨rfl, Keep.refl _ _⟩

set_option maxRecDepth 100000 in
set_option maxHeartbeats 400000 in
theorem same_pos (w : World) (a b offa offb ca cb n : Nat) (xs ys : List Int) (hn : n ≤ maxLen) (hx : xs.length = n) (hy : ys.length = n)
    (ha : ∀ i, i < n → w.cell? ⟨a, offa + i, none⟩ = some (.int .u64 (xs.getD i 0))) (hb : ∀ i, i < n → w.cell? ⟨b, offb + i, none⟩ = some (.int .u64 (ys.getD i 0))) :
    Calls Try.prog 20 #[.slice (some ⟨a, offa, none⟩) n ca, .slice (some ⟨b, offb, none⟩) n cb] w fun o w' => o = .returned (.bool (decide (xs = ys))) ∧ Keep [] w w' := by
  unfold maxLen at hn
  have h1 : ((n : Int) != (n : Int)) = false := by simp
  have HX := Lib.hid hx
  have HY := Lib.hid hy
  clear hx hy
  go_enter Try.func20, Try.ntmps20
  go_wp2
  go_loopw [5] (fun i wr => ∃ k : Nat, k ≤ n ∧ i = .int .i64 k ∧ (∀ j, j < k → xs.getD j 0 = ys.getD j 0) ∧ ∃ q, wr = w.drewN q) (fun i _ => n - (intOf i).toNat)
  case atStart => exact ⟨0, by omega, rfl, fun j hj => by omega, 0, rfl⟩
  case round =>
    obtain ⟨k, hk, rfl, hall, q, rfl⟩ := hrel
    have HA := Lib.hid hall
    clear hall
    by_cases hlt : k < n
    · have ha' : w.cell? ⟨a, offa + k, none⟩ = some (.int .u64 (xs.getD k 0)) := ha k hlt
      have hb' : w.cell? ⟨b, offb + k, none⟩ = some (.int .u64 (ys.getD k 0)) := hb k hlt
      generalize hxk : xs.getD k 0 = xk at ha'
      generalize hyk : ys.getD k 0 = yk at hb'
      have HXK := Lib.hid hxk
      have HYK := Lib.hid hyk
      clear hxk hyk ha hb
      by_cases hxy : xk = yk
      · have hne : (xk != yk) = false := by simpa using hxy
        have HE := Lib.hid hxy
        clear hxy
        go_wp2
        go_quiet (fail)
        go_wp2
        go_roundw
        case rel =>
          refine ⟨k + 1, by omega, by go_num, fun j hj => ?_, q + _, rfl⟩
          by_cases hjk : j = k
          · subst hjk; rw [HXK.out, HYK.out, HE.out]
          · exact HA.out j (by omega)
        case measure => simp [intOf]; omega
      · have hne : (xk != yk) = true := by simpa using hxy
        have HE := Lib.hid hxy
        clear hxy
        go_wp2
        go_quiet (fail)
        go_wp2
        go_ret
        refine ⟨ret_b ?_, by repeat (first | exact Keep.refl _ _ | refine Keep.drew ?_ | refine Keep.drewN ?_ _ | refine Keep.setCell ?_ (by first | (left; simp; done) | (right; simp; done) | (right; omega) | (right; simp; omega)) _ _ | refine Keep.setBlock ?_ (by first | (left; simp; done) | (right; simp; done) | (right; omega) | (right; simp; omega)) _ | refine Keep.alloc ?_ _ | refine Keep.andThen ?_ (by assumption) (by first | (simp; done) | (simp; omega) | (intro x hx; simp at hx; simp; omega)))⟩
        have : xs ≠ ys := fun e => HE.out (by rw [← HXK.out, ← HYK.out, e])
        simp [this]
    · go_wp2
      go_ret
      refine ⟨ret_b ?_, by repeat (first | exact Keep.refl _ _ | refine Keep.drew ?_ | refine Keep.drewN ?_ _ | refine Keep.setCell ?_ (by first | (left; simp; done) | (right; simp; done) | (right; omega) | (right; simp; omega)) _ _ | refine Keep.setBlock ?_ (by first | (left; simp; done) | (right; simp; done) | (right; omega) | (right; simp; omega)) _ | refine Keep.alloc ?_ _ | refine Keep.andThen ?_ (by assumption) (by first | (simp; done) | (simp; omega) | (intro x hx; simp at hx; simp; omega)))⟩
      have : xs = ys := by
        apply List.ext_getElem
        · rw [HX.out, HY.out]
        · intro i h2 h3
          have := HA.out i (by rw [HX.out] at h2; omega)
          simpa [h2, h3] using this
      simp [this]

/-- are they the same words? -/
theorem same_any (w : World) (va vb : Value) (xs ys : List Int) (ha : RdU w va xs) (hb : RdU w vb ys) :
    Calls Try.prog 20 #[va, vb] w fun o w' => o = .returned (.bool (decide (xs = ys))) ∧ Keep [] w w' := by
  by_cases hl : xs.length = ys.length
  · rcases Nat.eq_zero_or_pos xs.length with h0 | h0
    · obtain ⟨a, c, rfl⟩ := ha.zero h0
      obtain ⟨b, d, rfl⟩ := hb.zero (by omega)
      have : xs = ys := by rw [List.eq_nil_of_length_eq_zero h0, List.eq_nil_of_length_eq_zero (by omega : ys.length = 0)]
      rw [decide_eq_true this]
      exact same_zero w a b c d
    · obtain ⟨a, offa, ca, rfl, h1, h2, h3⟩ := ha.pos h0
      obtain ⟨b, offb, cb, rfl, h4, h5, h6⟩ := hb.pos (by omega)
      rw [← hl]
      exact same_pos w a b offa offb ca cb xs.length xs ys (by omega) rfl hl.symm h3 (fun i hi => h6 i (by omega))
  · have hne : xs ≠ ys := fun e => hl (by rw [e])
    rw [decide_eq_false hne]
    obtain ⟨a, c, rfl, h1⟩ := ha.len
    obtain ⟨b, d, rfl, h2⟩ := hb.len
    exact same_len w a b _ _ c d hl h1 h2

/-! ### the reference -/
theorem info31 : (Try.prog.info? 31).map (fun i => (i.zero, i.size, i.bytes)) = some (some (.slice none 0 0), 1, 24) := by kernel_rfl
structure RPort (w : World) (r many : Nat) (words : Int) (lo : Nat) (us : List Value) : Prop where
  hr : ∃ v, ob w r = some (.cells #[.int .i64 many, .int .i64 words, v] 41 (0, 0)) ∧ Rd w v us ∧ ∀ b, v.ownBlock = some b → lo < b
  one : ∀ u ∈ us, u.oneCell' = true
  rl : r ≤ lo
section
variable {w w' : World} {r many : Nat} {words : Int} {lo : Nat} {us : List Value}
theorem RPort.keep {S : List Nat} (h : RPort w r many words lo us) (hk : Keep S w w') (h1 : r ∉ S) (h2 : ∀ x, x ∈ S → x ≤ lo) : RPort w' r many words lo us := by
  obtain ⟨v, ho, hv, hb⟩ := h.hr
  exact ⟨⟨v, hk.kp ho h1, hv.keep hk (fun b hb' _ hm => by have := hb b hb'; have := h2 b hm; omega), hb⟩, h.one, h.rl⟩
theorem RPort.lt (h : RPort w r many words lo us) : r < w.heap.size := by
  obtain ⟨v, ho, _⟩ := h.hr
  exact ob_lt ho
end
set_option maxRecDepth 100000 in
set_option maxHeartbeats 400000 in
theorem rNew_yes (w : World) (m : Nat) (words : Int) (h1 : 1 ≤ m) (h2 : m ≤ 16) (h3 : 1 ≤ words) (h4 : words ≤ 16) :
    Calls Try.prog 15 #[.int .i64 m, .int .i64 words] w fun e w' => e = .returned (.tuple #[.pointer (some ⟨w.heap.size, 0, none⟩), .int .i64 0]) ∧ RPort w' w.heap.size m words w.heap.size [] ∧ Keep [] w w' := by
  have e2 := al_new w (.cells #[.int .i64 m, .int .i64 words, .slice none 0 0] 41) rfl
  have hk : Keep [] w (w.alloc (.cells #[.int .i64 m, .int .i64 words, .slice none 0 0] 41)) := (Keep.refl _ _).alloc _
  have H := Lib.hid (And.intro e2 hk)
  have d1 : ((m : Int) < 1) = False := eq_false (by omega)
  have d2 : ((16 : Int) < m) = False := eq_false (by omega)
  have d3 : (words < 1) = False := eq_false (by omega)
  have d4 : ((16 : Int) < words) = False := eq_false (by omega)
  clear e2 hk
  go_enter Try.func15, Try.ntmps15
  go_wp2
  go_ret2
  exact ⟨rfl, ⟨⟨_, H.out.1, Rd.nil _, fun b hb => by cases hb⟩, by simp, Nat.le_refl _⟩, H.out.2⟩
set_option maxRecDepth 100000 in
set_option maxHeartbeats 400000 in
theorem rNew_no (w : World) (m words : Int) (h : m < 1 ∨ 16 < m ∨ words < 1 ∨ 16 < words) :
    Calls Try.prog 15 #[.int .i64 m, .int .i64 words] w fun e w' => e = .returned (.tuple #[.pointer none, .int .i64 1]) ∧ Keep [] w w' := by
  have h' : m < 1 ∨ (1 ≤ m ∧ 16 < m) ∨ (1 ≤ m ∧ m ≤ 16 ∧ words < 1) ∨ (1 ≤ m ∧ m ≤ 16 ∧ 1 ≤ words ∧ 16 < words) := by omega
  clear h
  rcases h' with h1 | ⟨h1, h2⟩ | ⟨h1, h2, h3⟩ | ⟨h1, h2, h3, h4⟩
  all_goals
    go_enter Try.func15, Try.ntmps15
    go_wp2
    go_ret2
    exact ⟨rfl, Keep.refl _ _⟩
set_option maxRecDepth 100000 in
set_option maxHeartbeats 400000 in
theorem rSend_bad (w : World) (r many : Nat) (words : Int) (lo : Nat) (us : List Value) (h : RPort w r many words lo us) (a : Option Addr) (n cap : Nat) (hn : n < 1 ∨ words < (n : Int)) (hm : n ≤ maxLen) :
    Calls Try.prog 17 #[.pointer (some ⟨r, 0, none⟩), .slice a n cap] w fun e w' => e = .returned (.int .i64 1) ∧ w = w' := by
  obtain ⟨v, ho, _⟩ := h.hr
  have c1 := cell_of_ob ho 1
  simp only [List.getElem?_toArray, List.getElem?_cons_zero, List.getElem?_cons_succ] at c1
  unfold maxLen at hm
  have hn' : n < 1 ∨ (1 ≤ n ∧ words < (n : Int)) := by omega
  clear h hn ho
  rcases hn' with h1 | ⟨h1, h2⟩
  all_goals
    go_enter Try.func17, Try.ntmps17
    go_wp2
    go_ret
    exact ⟨rfl, rfl⟩
set_option maxRecDepth 100000 in
set_option maxHeartbeats 800000 in
theorem rSend_full (w : World) (r many : Nat) (words : Int) (lo : Nat) (us : List Value) (h : RPort w r many words lo us) (a : Option Addr) (n cap : Nat) (h1 : 1 ≤ n) (h2 : (n : Int) ≤ words) (hm : n ≤ 1000000) (hf : us.length = many) (hm2 : many ≤ 16) :
    Calls Try.prog 17 #[.pointer (some ⟨r, 0, none⟩), .slice a n cap] w fun e w' => e = .returned (.int .i64 3) ∧ Keep [] w w' := by
  obtain ⟨v, ho, hv, _⟩ := h.hr
  obtain ⟨va, vc, rfl, _⟩ := hv.len
  rw [hf] at ho hv
  have c0 := cell_of_ob ho 0
  have c1 := cell_of_ob ho 1
  have c2 := cell_of_ob ho 2
  simp only [List.getElem?_toArray, List.getElem?_cons_zero, List.getElem?_cons_succ] at c0 c1 c2
  have hn1 : ((n : Int) < 1) = False := eq_false (by omega)
  have hn2 : (words < (n : Int)) = False := eq_false (by omega)
  clear h ho hv hf
  go_enter Try.func17, Try.ntmps17
  go_wp2_with fail
  go_quiet (fail)
  go_wp2
  go_ret
  exact ⟨rfl, (Keep.refl _ _).drewN _⟩
set_option maxRecDepth 100000 in
set_option maxHeartbeats 2000000 in
theorem rSend_ok (w : World) (r many : Nat) (words : Int) (lo : Nat) (us : List Value) (h : RPort w r many words lo us) (a : Option Addr) (n cap : Nat) (xs : List Int) (hx : RdU w (.slice a n cap) xs) (h1 : 1 ≤ n) (h2 : (n : Int) ≤ words) (hm : n ≤ 1000000) (hf : us.length < many) (hm2 : many ≤ 16) (hlo : lo < w.heap.size) :
    Calls Try.prog 17 #[.pointer (some ⟨r, 0, none⟩), .slice a n cap] w fun e w' => e = .returned (.int .i64 0) ∧ ∃ u, RPort w' r many words lo (us ++ [u]) ∧ w'.ownsRow w.heap.size 44 1 u n (u64s xs) ∧ Keep [r] w w' := by
  obtain ⟨v, ho, hv, hvb⟩ := h.hr
  obtain ⟨va, vc, rfl, hvc1, hvc2⟩ := hv.len
  have hnx : xs.length = n := by
    obtain ⟨a', cap', e, _⟩ := Rd.len hx
    rw [u64s_length] at e
    cases e; rfl
  have c0 := cell_of_ob ho 0
  have c1 := cell_of_ob ho 1
  have c2 := cell_of_ob ho 2
  simp only [List.getElem?_toArray, List.getElem?_cons_zero, List.getElem?_cons_succ] at c0 c1 c2
  have hn1 : ((n : Int) < 1) = False := eq_false (by omega)
  have hn2 : (words < (n : Int)) = False := eq_false (by omega)
  have HH := Lib.hid (And.intro h (And.intro ho (And.intro hv (And.intro hx hnx))))
  obtain ⟨k, hk⟩ : ∃ k, us.length = k := ⟨_, rfl⟩
  rw [hk] at c2 hf
  have HK := Lib.hid hk
  have hrw := ob_lt ho
  clear h ho hv hvb hx hnx hvc1 hvc2 hk
  go_enter Try.func17, Try.ntmps17
  go_wp2_with fail
  go_quiet (fail)
  obtain ⟨h, ho, hv, hx, hnx⟩ := HH.out
  have hk := HK.out
  rw [hk] at ho hv
  have hkq : Keep [] w (w.drewN nq) := (Keep.refl _ _).drewN nq
  have hoq : ob (w.drewN nq) r = _ := ho
  have hvq : Rd (w.drewN nq) _ us := hv
  have hxq : RdU (w.drewN nq) _ xs := hx
  have hsq : (w.drewN nq).heap.size = w.heap.size := rfl
  generalize w.drewN nq = wq at *
  have hr0 : r < wq.heap.size := ob_lt hoq
  -- the copy of the list
  have kA : Keep [] wq (wq.alloc (.cells #[] 31)) := (Keep.refl _ _).alloc _
  obtain ⟨va2, vc2, w2, happ2, own2, hg2⟩ := append_rd (P := Try.prog) Try.underlying39 info31 rfl _ (owns_empty wq (base := wq.heap.size) (Nat.le_refl _) 31 1) (hvq.keep kA (by simp)) h.one (by unfold maxLen; omega) (by omega) (by simp) 39
  rw [Nat.zero_add, hk] at happ2 own2
  rw [List.nil_append] at own2
  have k2 : Keep [] wq w2 := kA.andThen (Keep.ofGrown hg2) (by simp [Value.ownBlock])
  -- the copy of the message
  have kB : Keep [] w2 (w2.alloc (.cells #[] 44)) := (Keep.refl _ _).alloc _
  obtain ⟨ua, uc, w4, happ4, own4, hg4⟩ := append_rd (P := Try.prog) Try.underlying31 info44 rfl _ (owns_empty w2 (base := w2.heap.size) (Nat.le_refl _) 44 1) (Rd.keep hxq (k2.trans kB) (by simp)) u64s_one (by rw [u64s_length]; unfold maxLen; omega) (by rw [u64s_length]; omega) (by simp) 31
  rw [Nat.zero_add, u64s_length, hnx] at happ4 own4
  rw [List.nil_append] at own4
  have k4 : Keep [] w2 w4 := kB.andThen (Keep.ofGrown hg4) (by simp [Value.ownBlock])
  -- the two together
  have kC : Keep [] w4 (w4.alloc (.cells #[.slice ua n uc] 31)) := (Keep.refl _ _).alloc _
  have rC : Rd (w4.alloc (.cells #[.slice ua n uc] 31)) (.slice (some ⟨w4.heap.size, 0, none⟩) 1 1) [.slice ua n uc] := Rd.row (al_new w4 (.cells #[.slice ua n uc] 31) rfl) rfl (by omega) (by unfold maxLen; omega) rfl
  obtain ⟨va6, vc6, w6, happ6, own6, hg6⟩ := append_rd (P := Try.prog) Try.underlying39 info31 rfl _ (owns_keep own2 (k4.trans kC) (by simp)) rC (by simp; rfl) (by simp; unfold maxLen; omega) (by simp; omega) (by have := k2.size; have := (k4.trans kC).size; omega) 39
  simp only [List.length_cons, List.length_nil, Nat.zero_add] at happ6 own6
  have hb2 : ∀ b, b ∈ (Value.slice va2 k vc2).ownBlock.toList → wq.heap.size ≤ b := fun b hb => by
    simp only [Option.mem_toList] at hb
    exact ownBlock_ge own2 hb
  have k6 : Keep [] wq w6 := ((k2.trans k4).trans kC).andThen (Keep.ofGrown hg6) (by intro x hx; exact .inr (hb2 x hx))
  have own6' := own6
  have own4' : w6.ownsRow w2.heap.size 44 1 (.slice ua n uc) n (u64s xs) := owns_keep own4 ((kC.mono (T := (Value.slice va2 k vc2).ownBlock.toList) (by simp)).trans (Keep.ofGrown hg6)) (fun b hb hm => by
    have g1 := ownBlock_ge own4 hb
    simp only [Option.mem_toList] at hm
    have g2 := ownBlock_lt own2 hm
    omega)
  have c2q := cell_of_ob hoq 2
  simp only [List.getElem?_toArray, List.getElem?_cons_zero, List.getElem?_cons_succ] at c2q
  have o6 := k6.kp hoq (by simp)
  have c26 := cell_of_ob o6 2
  have f26 := free_of_ob o6 2
  simp only [List.getElem?_toArray, List.getElem?_cons_zero, List.getElem?_cons_succ] at c26
  have kF : Keep [r] wq (w6.setCell ⟨r, 2, none⟩ (.slice va6 (k + 1) vc6)) := (k6.mono (by simp)).setCell (.inl (by simp)) 2 _
  have oF : ob (w6.setCell ⟨r, 2, none⟩ (.slice va6 (k + 1) vc6)) r = some (.cells #[.int .i64 many, .int .i64 words, .slice va6 (k + 1) vc6] 41 (0, 0)) := (st_same o6).trans rfl
  have kS : Keep [r] w6 (w6.setCell ⟨r, 2, none⟩ (.slice va6 (k + 1) vc6)) := (Keep.refl _ _).setCell (.inl (by simp)) 2 _
  have r6 := owns_keep own6 kS (fun b hb hm => by have := ownBlock_ge own6 hb; simp at hm; omega)
  have m6 := owns_keep own4' kS (fun b hb hm => by have := ownBlock_ge own4' hb; have := k2.size; simp at hm; omega)
  have HF : Hid (RPort (w6.setCell ⟨r, 2, none⟩ (.slice va6 (k + 1) vc6)) r many words lo (us ++ [.slice ua n uc]) ∧ (w6.setCell ⟨r, 2, none⟩ (.slice va6 (k + 1) vc6)).ownsRow w.heap.size 44 1 (.slice ua n uc) n (u64s xs) ∧ Keep [r] w (w6.setCell ⟨r, 2, none⟩ (.slice va6 (k + 1) vc6))) := by
    refine Lib.hid ⟨⟨⟨_, oF, Rd.own r6, fun b hb => ?_⟩, ?_, h.rl⟩, ?_, (hkq.mono (by simp)).trans kF⟩
    · have := ownBlock_ge r6 hb; omega
    · intro u hu
      rcases List.mem_append.1 hu with hu | hu
      · exact h.one u hu
      · simp at hu; subst hu; rfl
    · exact ⟨m6.1, m6.2.imp id (fun ⟨g, cap, cur, e1, e2, e3⟩ => ⟨g, cap, cur, e1, by have := k2.size; omega, e3⟩)⟩
  clear hsq hv hx hkq hoq ho hvq hxq kA own2 hg2 k2 kB own4 hg4 k4 kC rC own6 hg6 hb2 k6 own6' own4' o6 kF oF kS r6 m6 hnx hk h
  go_wp2_with (first
    | (at_builtin; refine wpList_append_eq rfl _ _ 39 rfl rfl rfl happ2 ?_)
    | (at_builtin; refine wpList_append_eq rfl _ _ 31 rfl rfl rfl happ4 ?_)
    | (at_builtin; refine wpList_append_eq rfl _ _ 39 rfl rfl rfl happ6 ?_))
  go_ret
  exact ⟨rfl, _, HF.out.1, HF.out.2.1, HF.out.2.2⟩
end Go.Proofs.Ytjiienoflgolpaa
