import Derived.Test.YtjiienoflgolpaaRows
import Derived.Test.YtjiienoflgolpaaLibC
import Derived.Test.YtjiienoflgolpaaLibW
namespace Go.Proofs.Ytjiienoflgolpaa
open Go.RowKit
set_option linter.unusedSimpArgs false
set_option linter.unusedVariables false
open Go.Conc
attribute [local go_sem] ob_alloc ob_drew ob_drewN ob_setCell ob_setBlock objSet_cells obMap_map obClock_map isMapI_map keyI_mk findI_nil findI_cons lookRes_some lookRes_none lookRes_some' lookRes_none' setBlock_alloc mapPut

/-- v is a slice of words, that reads as xs -/
def RdU (w : World) (v : Value) (xs : List Int) : Prop := Rd w v (u64s xs)
/-- the port at p: its channel c, room for many, of so many words; what lies in the buffer -/
structure PortB (w : World) (p c many : Nat) (words : Int) (buf : List Value) : Prop where
  hp : ob w p = some (.cells #[.int .i64 words, .chan (some c)] 92 (0, 0))
  hc : ∃ s r, ob w c = some (.chan many buf.toArray false s r false)
  le : buf.length ≤ many
section
variable {w w' : World} {p c many : Nat} {words : Int} {buf : List Value}
theorem PortB.keep {S : List Nat} (h : PortB w p c many words buf) (hk : Keep S w w') (h1 : p ∉ S) (h2 : c ∉ S) : PortB w' p c many words buf := by
  obtain ⟨s, r, hc⟩ := h.hc
  exact ⟨hk.kp h.hp h1, ⟨s, r, hk.kp hc h2⟩, h.le⟩
theorem PortB.ne (h : PortB w p c many words buf) : p ≠ c := by
  intro e
  obtain ⟨s, r, hc⟩ := h.hc
  have := h.hp
  rw [e, hc] at this
  cases this
theorem PortB.lt (h : PortB w p c many words buf) : p < w.heap.size ∧ c < w.heap.size := by
  obtain ⟨s, r, hc⟩ := h.hc
  exact ⟨ob_lt h.hp, ob_lt hc⟩
theorem PortB.set (h : PortB w p c many words buf) (buf' : List Value) (hl : buf'.length ≤ many) (s r : Nat) : PortB (w.setChan c many buf'.toArray false s r false) p c many words buf' := by
  obtain ⟨s0, r0, hc⟩ := h.hc
  exact ⟨by rw [ob_setChan, if_neg h.ne]; exact h.hp, ⟨s, r, by rw [ob_setChan, if_pos rfl, hc]; rfl⟩, hl⟩
end

/-! ### Clone -/
theorem info44 : (Try.prog.info? 44).map (fun i => (i.zero, i.size, i.bytes)) = some (some (.int .u64 0), 1, 8) := by kernel_rfl
set_option maxRecDepth 100000 in
set_option maxHeartbeats 400000 in
theorem qClone (w : World) (v : Value) (xs : List Int) (hv : RdU w v xs) (hn : xs.length ≤ 1000000) :
    Calls Try.prog 51 #[v] w fun e w' => ∃ v', e = .returned v' ∧ w'.ownsRow w.heap.size 44 1 v' xs.length (u64s xs) ∧ Keep [] w w' := by
  rcases hv with ⟨rfl, hx⟩ | ⟨a, cap, rfl, h1, h2, h3⟩
  · have HX : Hid (u64s xs = []) := Lib.hid hx
    have hnil : ∀ w, (binOp .eql 31 (.slice none 0 0) (.slice none 0 0)).run Try.prog w = .ok (.bool true) w := fun w => eqnil_run (P := Try.prog) Try.underlying31 none 0 0 w
    clear hx
    go_enter Try.func51, Try.ntmps51
    go_wp2
    go_ret
    have hl : xs.length = 0 := by have := congrArg List.length HX.out; rw [u64s_length] at this; exact this
    rw [hl, HX.out]
    exact ⟨_, rfl, ⟨rfl, .inl ⟨rfl, rfl⟩⟩, Keep.refl _ _⟩
  · rw [u64s_length] at h1 ⊢
    have hnil : ∀ w, (binOp .eql 31 (.slice (some a) xs.length cap) (.slice none 0 0)).run Try.prog w = .ok (.bool false) w := fun w => eqnil_run (P := Try.prog) Try.underlying31 (some a) _ _ w
    have hr : RdU w (.slice (some a) xs.length cap) xs := .inr ⟨a, cap, by rw [u64s_length], by rw [u64s_length]; exact h1, h2, h3⟩
    have HR := Lib.hid hr
    have hr2 := hr.alloc (.cells #[] 44)
    have hown := owns_empty w (base := w.heap.size) (Nat.le_refl _) 44 1
    obtain ⟨va, vc, w2, happ, hown2, hg⟩ := append_rd (P := Try.prog) Try.underlying31 info44 rfl _ hown hr2 u64s_one (by rw [u64s_length]; unfold maxLen; omega) (by rw [u64s_length]; omega) (by simp) 31
    rw [Nat.zero_add, u64s_length] at happ hown2
    rw [List.nil_append] at hown2
    have hk : Keep [] w w2 := ((Keep.refl [] w).alloc (.cells #[] 44)).andThen (Keep.ofGrown hg) (by simp [Value.ownBlock])
    have HE := Lib.hid (And.intro hown2 hk)
    generalize hbs : xs.length = n at *
    clear hr hr2 hown hown2 hg hk h3 hbs hn h2
    go_enter Try.func51, Try.ntmps51
    go_wp2_with (first
      | (at_builtin; refine wpList_append_eq rfl _ _ 31 rfl rfl rfl happ ?_))
    go_ret
    exact ⟨_, rfl, HE.out.1, HE.out.2⟩

/-! ### New -/
theorem mk90 (m : Nat) (hm : m ≤ 16) (w : World) : (Instr.makeChan 90 (.int .i64 (m : Int))).run Try.prog w = .ok (.chan (some w.heap.size)) (w.alloc (.chan m #[] false 0 0 false)) := by
  have h : (Try.prog.info? 31).map (·.bytes) = some 24 := by kernel_rfl
  obtain ⟨i, hi, hb⟩ := Option.map_eq_some_iff.1 h
  exact run_makeChan (P := Try.prog) (w := w) Try.underlying90 hi .i64 m (by omega) (by rw [hb]; omega)
set_option maxRecDepth 100000 in
set_option maxHeartbeats 400000 in
theorem qNew_yes (w : World) (m : Nat) (words : Int) (h1 : 1 ≤ m) (h2 : m ≤ 16) (h3 : 1 ≤ words) (h4 : words ≤ 16) :
    Calls Try.prog 14 #[.int .i64 m, .int .i64 words] w fun e w' => e = .returned (.tuple #[.pointer (some ⟨w.heap.size + 1, 0, none⟩), .int .i64 0]) ∧ PortB w' (w.heap.size + 1) w.heap.size m words [] ∧ Keep [] w w' := by
  have hmk := mk90 m h2
  have e1 := al (al_new w (.chan m #[] false 0 0 false) rfl) (o' := .cells #[.int .i64 words, .chan (some w.heap.size)] 92)
  have e2 := al_new (w.alloc (.chan m #[] false 0 0 false)) (.cells #[.int .i64 words, .chan (some w.heap.size)] 92) rfl
  have hs : (w.alloc (.chan m #[] false 0 0 false)).heap.size = w.heap.size + 1 := by simp
  rw [hs] at e2
  have hk : Keep [] w ((w.alloc (.chan m #[] false 0 0 false)).alloc (.cells #[.int .i64 words, .chan (some w.heap.size)] 92)) := ((Keep.refl _ _).alloc _).alloc _
  have H := Lib.hid (And.intro e1 (And.intro e2 hk))
  have d1 : ((m : Int) < 1) = False := eq_false (by omega)
  have d2 : ((16 : Int) < m) = False := eq_false (by omega)
  have d3 : (words < 1) = False := eq_false (by omega)
  have d4 : ((16 : Int) < words) = False := eq_false (by omega)
  clear e1 e2 hs hk
  go_enter Try.func14, Try.ntmps14
  go_wp2
  go_ret2
  exact ⟨rfl, ⟨H.out.2.1, ⟨0, 0, H.out.1⟩, by simp⟩, H.out.2.2⟩
set_option maxRecDepth 100000 in
set_option maxHeartbeats 400000 in
theorem qNew_no (w : World) (m words : Int) (h : m < 1 ∨ 16 < m ∨ words < 1 ∨ 16 < words) :
    Calls Try.prog 14 #[.int .i64 m, .int .i64 words] w fun e w' => e = .returned (.tuple #[.pointer none, .int .i64 1]) ∧ Keep [] w w' := by
  have h' : m < 1 ∨ (1 ≤ m ∧ 16 < m) ∨ (1 ≤ m ∧ m ≤ 16 ∧ words < 1) ∨ (1 ≤ m ∧ m ≤ 16 ∧ 1 ≤ words ∧ 16 < words) := by omega
  clear h
  rcases h' with h1 | ⟨h1, h2⟩ | ⟨h1, h2, h3⟩ | ⟨h1, h2, h3, h4⟩
  all_goals
    go_enter Try.func14, Try.ntmps14
    go_wp2
    go_ret2
    exact ⟨rfl, Keep.refl _ _⟩

/-! ### Len -/
set_option maxRecDepth 100000 in
set_option maxHeartbeats 400000 in
theorem qLenQ (w : World) (p c many : Nat) (words : Int) (buf : List Value) (h : PortB w p c many words buf) :
    Calls Try.prog 22 #[.pointer (some ⟨p, 0, none⟩)] w fun e w' => e = .returned (.int .i64 (buf.length : Nat)) ∧ w' = w := by
  obtain ⟨s, r, hc⟩ := h.hc
  have c1 := cell_of_ob h.hp 1
  simp only [List.getElem?_toArray, List.getElem?_cons_zero, List.getElem?_cons_succ] at c1
  have hlen : ∀ ty, (Builtin.len_ #[90] ty #[.chan (some c)]).run Try.prog w = .ok (goInt buf.length) w := fun ty => by
    have := run_len_chan (P := Try.prog) 90 ty Try.underlying90 (show w.heap[c]? = _ from hc)
    simpa using this
  generalize buf.length = n at *
  clear h hc
  go_enter Try.func22, Try.ntmps22
  go_wp2
  go_ret
  exact ⟨rfl, rfl⟩
theorem qLen (w : World) (p c many : Nat) (words : Int) (buf : List Value) (h : PortB w p c many words buf) :
    Calls Try.prog 22 #[.pointer (some ⟨p, 0, none⟩)] w fun e w' => e = .returned (.int .i64 (buf.length : Nat)) ∧ Keep [] w w' :=
  (qLenQ w p c many words buf h).mono fun _ _ ⟨a, b⟩ => ⟨a, by rw [b]; exact Keep.refl _ _⟩
end Go.Proofs.Ytjiienoflgolpaa
