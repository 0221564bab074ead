import Derived.Test.YtfljhfggjbkomaaUo
namespace Go.Proofs.Ytfljhfggjbkomaa
open Go.RowKit
set_option linter.unusedSimpArgs false
set_option linter.unusedVariables false
attribute [local go_sem] ob_alloc ob_drew ob_drewN ob_setCell ob_setBlock objSet_cells obMap_map obClock_map isMapI_map keyI_mk findI_nil findI_cons lookRes_some lookRes_none lookRes_some' lookRes_none' setBlock_alloc mapPut

set_option maxRecDepth 100000 in
set_option maxHeartbeats 2000000 in
theorem rDo_no {W0 w : World} {r : Nat} {C : Nat → Int} {ls : List Nat} {E : List (Int × Int)} {bl bs : Option Nat} {bb off n cap : Nat} (h : RLw W0 w r (.slice (some ⟨bb, off, none⟩) n cap) C (nI ls) E bl bs) (O : Nat → OpB) (i : Nat) (hin : i < n) (hn : n ≤ maxLen)
    (hls : ∀ j ∈ ls, j < n) (hX : ∀ w' j, Keep [] W0 w' → j < n → Arg3 bb off (O j) j w') (hf : (O i).fail ≠ 0) (hL : ls.length ≤ 1000) (hE : E.length ≤ 80000) :
    Calls Try.prog 20 #[.pointer (some ⟨r, 0, none⟩), .int .i64 i] w fun e w' => e = .returned (.int .i64 (O i).fail) ∧ ∃ bs', RLw W0 w' r (.slice (some ⟨bb, off, none⟩) n cap) (rolI C O ls) [] (E ++ [(1, (i : Int))] ++ rolE ls) none bs' ∧ Keep (r :: bs.toList) w w' ∧ NewB w bs bs' := by
  have HF := Lib.hid (And.intro hls (And.intro hX hn))
  obtain ⟨l0, l1, l2⟩ := hX w i h.kp hin
  unfold maxLen at hn
  obtain ⟨⟨c, a, f⟩, ho⟩ : ∃ o, O i = o := ⟨_, rfl⟩
  rw [ho] at hf l0 l1 l2 ⊢
  simp only at hf l0 l1 l2 ⊢
  have hf' : (f != 0) = true := by simpa using hf
  obtain ⟨Lv, Sv, h1, h2, h3, h4, h5⟩ := h.ex
  have r6 := cell_of_ob h1 6
  have hrl := ob_lt h1
  simp only [rO, List.getElem?_toArray, List.getElem?_cons_zero, List.getElem?_cons_succ] at r6
  have hA := h.new ((Keep.refl [] w).alloc (.cells #[.int .i64 c, .int .i64 a, .int .i64 f] 36))
  have hxo := al_new w (.cells #[.int .i64 c, .int .i64 a, .int .i64 f] 36) rfl
  have HH := Lib.hid (And.intro h (And.intro hA hxo))
  have hi0 : (0 : Int) ≤ (i : Int) := by omega
  have hi1 : (i : Int) < (n : Int) := by omega
  clear h hls hX h1 h2 h3 h4 h5 hA hxo hf ho
  go_enter Try.func20, Try.ntmps20
  go_upto_region 2 with fail
  obtain ⟨h, hA, hxo⟩ := HH.out
  have hks : Keep [] w (w.alloc (.cells #[.int .i64 c, .int .i64 a, .int .i64 f] 36)) := (Keep.refl _ _).alloc _
  have hwx : w.heap.size < (w.alloc (.cells #[.int .i64 c, .int .i64 a, .int .i64 f] 36)).heap.size := by simp
  have hxw : w.heap.size ≤ w.heap.size := Nat.le_refl _
  obtain ⟨xo, hxe⟩ : ∃ xo, w.heap.size = xo := ⟨_, rfl⟩
  have HXE := Lib.hid hxe
  rw [hxe] at hxo ⊢
  generalize w.alloc (.cells #[.int .i64 c, .int .i64 a, .int .i64 f] 36) = wA at *
  obtain ⟨va, vc, va', vc', w1, bs1, g1, g2, g3, gk, gb, g4, ⟨g5, g6⟩, g7⟩ := hA.seen (1, (i : Int)) (by omega)
  have hx1 := gk.kp hxo (fun hm => by
    rcases List.mem_cons.1 hm with e | hm
    · have := h.lt; omega
    · simp only [Option.mem_toList] at hm
      have := (h.blk.2 _ hm).2; omega)
  have hx0 := Lib.hid hxo
  have H1 := Lib.hid (And.intro h (And.intro g3 (And.intro gk (And.intro gb (And.intro hx1 hks)))))
  clear h hA hxo g3 gk gb hx1 hks HH l0 l1 l2 r6 hwx hxw hxe
  have HEl := Lib.hid hE
  generalize hLE : E.length = LE at *
  have HLE := Lib.hid hLE
  clear hLE
  go_upto_region 3 with (first
    | (at_builtin; refine wpList_append_eq rfl _ _ 28 rfl rfl rfl (g2 _) ?_))
  obtain ⟨h, hG, gk, gb, hx1, hks⟩ := H1.out
  generalize w1.setCell ⟨r, 5, none⟩ (.slice va' (LE + 1) vc') = w2 at *
  have e2 := cell_of_ob hx1 2
  simp only [List.getElem?_toArray, List.getElem?_cons_zero, List.getElem?_cons_succ] at e2
  have hcall := rRoll hG O HF.out.1 HF.out.2.2 HF.out.2.1 hL (by have := HLE.out; rw [List.length_append]; simp; omega)
  clear h hG gk gb hx1 hks g1 g2 g4 g6 g7 hrl
  go_wp2_with fail
  refine hcall.mono ?_
  rintro _ w3 ⟨rfl, bs2, q1, q2, q3⟩
  obtain ⟨h, hG, gk, gb, hx1, hks⟩ := H1.out
  have hx3 := q2.kp hx1 (fun hm => by
    have hxe := HXE.out
    have hwx : xo < wA.heap.size := ob_lt (hx0.out)
    rcases List.mem_cons.1 hm with e | hm
    · have := h.lt; omega
    · simp only [Option.mem_toList] at hm
      rcases gb with e | ⟨b, e, hb⟩
      · rw [e] at hm; have := (h.blk.2 _ hm).2; omega
      · rw [e] at hm; simp at hm; omega)
  have e3 := cell_of_ob hx3 2
  simp only [List.getElem?_toArray, List.getElem?_cons_zero, List.getElem?_cons_succ] at e3
  have HE : Hid (RLw W0 w3 r (.slice (some ⟨bb, off, none⟩) n cap) (rolI C O ls) [] (E ++ [(1, (i : Int))] ++ rolE ls) none bs2 ∧ Keep (r :: bs.toList) w w3 ∧ NewB w bs bs2) := by
    refine Lib.hid ⟨q1, ((hks.mono (by simp)).trans gk).andThen q2 (fun y hy => ?_), ?_⟩
    · rcases List.mem_cons.1 hy with rfl | hy
      · exact .inl (.head _)
      · simp only [Option.mem_toList] at hy
        rcases gb with e | ⟨b, e, hb⟩
        · exact .inl (List.mem_cons_of_mem _ (by simp only [Option.mem_toList]; rw [← e]; exact hy))
        · rw [e] at hy; simp at hy; subst hy; exact .inr (by have := hks.size; omega)
    · rcases q3 with e | e | ⟨b, e, hb⟩
      · rw [e]
        rcases gb with e' | ⟨b, e', hb⟩
        · exact .inl e'
        · exact .inr (.inr ⟨b, e', by have := hks.size; omega⟩)
      · exact .inr (.inl e)
      · exact .inr (.inr ⟨b, e, by have := hks.size; have := gk.size; omega⟩)
  clear hcall q1 q2 q3 h hG gk gb hx1 hks hx3 e2
  go_wp2
  go_ret
  exact ⟨rfl, bs2, HE.out⟩
end Go.Proofs.Ytfljhfggjbkomaa
