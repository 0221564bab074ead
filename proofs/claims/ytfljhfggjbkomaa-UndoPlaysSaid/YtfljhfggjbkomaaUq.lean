import Derived.Test.YtfljhfggjbkomaaUp
import Derived.Test.YtfljhfggjbkomaaUl
namespace Go.Proofs.Ytfljhfggjbkomaa
open Go.RowKit
set_option linter.unusedSimpArgs false
set_option linter.unusedVariables false
attribute [local go_sem] ob_alloc ob_drew ob_drewN ob_setCell ob_setBlock objSet_cells obMap_map obClock_map isMapI_map keyI_mk findI_nil findI_cons lookRes_some lookRes_none lookRes_some' lookRes_none' setBlock_alloc mapPut
attribute [local go_sem ↓] eql112 neq112

set_option maxRecDepth 100000 in
set_option maxHeartbeats 800000 in
theorem rSame (w : World) (B : Nat) (v u : Value) (xs : List (Int × Int)) (hv : RowE evE 112 w B v xs) (hu : RowE evE 112 w B u xs) (hn : xs.length ≤ 1000) :
    Calls Try.prog 24 #[v, u] w fun e w' => e = .returned (.bool true) ∧ ∃ m, w' = w.drewN m := by
  have hV := Lib.hid hv
  have hU := Lib.hid hu
  obtain ⟨va, vc, rfl⟩ := hv.slice
  obtain ⟨ua, uc, rfl⟩ := hu.slice
  obtain ⟨n, hl⟩ : ∃ n, xs.length = n := ⟨_, rfl⟩
  rw [hl] at hV hU hn ⊢
  have HL := Lib.hid hl
  clear hv hu hl
  go_enter Try.func24, Try.ntmps24
  go_wp2_with fail
  go_loopg [5] n (fun gn i wr => ∃ k nd : Nat, i = .int .i64 k ∧ k ≤ n ∧ gn = n - k ∧ wr = w.drewN nd)
  case atStart => exact ⟨0, 0, rfl, by omega, by omega, rfl⟩
  case round =>
    obtain ⟨k, nd, rfl, hk, rfl, rfl⟩ := hrel
    by_cases hlt : k < n
    · have hx : xs[k]? = some (xs[k]'(by rw [HL.out]; exact hlt)) := List.getElem?_eq_getElem _
      generalize (xs[k]'(by rw [HL.out]; exact hlt)) = l at hx
      obtain ⟨g1, c1, e1, _, _, b1, b2, hc1⟩ := hV.out.get hx
      obtain ⟨g2, c2, e2, _, _, b3, b4, hc2⟩ := hU.out.get hx
      simp only [Value.slice.injEq, HL.out, true_and] at e1 e2
      obtain ⟨rfl, rfl⟩ := e1
      obtain ⟨rfl, rfl⟩ := e2
      have p0 := hc1 0 _ rfl
      have p1 := hc1 1 _ rfl
      have q0 := hc2 0 _ rfl
      have q1 := hc2 1 _ rfl
      rw [Nat.add_zero] at p0 q0
      rw [HL.out] at b1 b3
      clear hc1 hc2 hx
      go_wp2_with fail
      go_quiet (fail)
      go_wp2_with fail
      go_roundg (n - (k + 1))
      case measure => omega
      case rel => exact ⟨k + 1, _, by go_num, by omega, rfl, rfl⟩
    · obtain rfl : k = n := by omega
      go_wp2
      go_ret
      exact ⟨rfl, _, rfl⟩
theorem UL.by {W0 w w' : World} {bo lg : Nat} {kn kn' : List (Nat × Obj)} {C : Nat → Int} {E : List (Int × Int)} {L : List Cl} {S : List Nat} (h : UL W0 w bo lg kn C E L) (hk : Keep S w w') (hS : ∀ y ∈ S, (∃ o, (y, o) ∈ kn) ∧ W0.heap.size ≤ y)
    (hn : ∀ x ∈ kn', (x ∈ kn ∧ x.1 ∉ S) ∨ (ob w' x.1 = some x.2 ∧ ((∃ o, (x.1, o) ∈ kn) ∨ w.heap.size ≤ x.1))) (hg : ∀ c ∈ L, c.good W0 bo kn') : UL W0 w' bo lg kn' C E L := by
  obtain ⟨v, rk, h1, h2, h3, h4⟩ := h.ex
  have hlg : lg < w.heap.size := ob_lt (h2.obk (.head _))
  have hbo := h2.lt
  have hrk : ∀ x ∈ rk, x.1 < w.heap.size := fun x hx => ob_lt (h2.ow x (List.mem_cons_of_mem _ (List.mem_append_left _ hx))).1
  refine ⟨⟨v, rk, h1, h2.by hk (fun y hy => ?_) (fun x hx => ?_), fun x hx => ?_, fun x hx y hy => ?_⟩, h.l0, hg⟩
  · obtain ⟨⟨o, ho⟩, h0⟩ := hS y hy
    exact ⟨⟨o, mem_lg ho⟩, h0⟩
  · rcases List.mem_cons.1 hx with rfl | hx
    · refine .inl ⟨.head _, fun hm => ?_⟩
      obtain ⟨⟨o, ho⟩, _⟩ := hS lg hm
      exact h3 _ (List.mem_append_right _ ho) rfl
    · rcases List.mem_append.1 hx with hx | hx
      · refine .inl ⟨List.mem_cons_of_mem _ (List.mem_append_left _ hx), fun hm => ?_⟩
        obtain ⟨⟨o, ho⟩, _⟩ := hS x.1 hm
        exact h4 x hx _ ho rfl
      · rcases hn x hx with ⟨q1, q2⟩ | ⟨q1, ⟨o, q2⟩ | q2⟩
        · exact .inl ⟨mem_lg q1, q2⟩
        · exact .inr ⟨q1, (h2.ow (x.1, o) (mem_lg q2)).2, .inl ⟨o, mem_lg q2⟩⟩
        · exact .inr ⟨q1, by omega, .inr q2⟩
  · rcases List.mem_append.1 hx with hx | hx
    · exact h3 x (List.mem_append_left _ hx)
    · rcases hn x hx with ⟨q1, q2⟩ | ⟨q1, ⟨o, q2⟩ | q2⟩
      · exact h3 x (List.mem_append_right _ q1)
      · exact h3 (x.1, o) (List.mem_append_right _ q2)
      · omega
  · rcases hn y hy with ⟨q1, q2⟩ | ⟨q1, ⟨o, q2⟩ | q2⟩
    · exact h4 x hx y q1
    · exact h4 x hx (y.1, o) q2
    · have := hrk x hx; omega
end Go.Proofs.Ytfljhfggjbkomaa
