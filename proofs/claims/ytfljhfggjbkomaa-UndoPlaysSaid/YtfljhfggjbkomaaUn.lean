import Derived.Test.YtfljhfggjbkomaaUm
namespace Go.Proofs.Ytfljhfggjbkomaa
open Go.RowKit
set_option linter.unusedSimpArgs false
set_option linter.unusedVariables false
attribute [local go_sem] ob_alloc ob_drew ob_drewN ob_setCell ob_setBlock objSet_cells obMap_map obClock_map isMapI_map keyI_mk findI_nil findI_cons lookRes_some lookRes_none lookRes_some' lookRes_none' setBlock_alloc mapPut

theorem RLw.blk {W0 w : World} {r : Nat} {opsv : Value} {C : Nat → Int} {L : List Int} {E : List (Int × Int)} {bl bs : Option Nat} (h : RLw W0 w r opsv C L E bl bs) : (∀ b, bl = some b → W0.heap.size ≤ b ∧ b < w.heap.size) ∧ (∀ b, bs = some b → W0.heap.size ≤ b ∧ b < w.heap.size) := by
  obtain ⟨Lv, Sv, h1, h2, h3, h4, h5⟩ := h.ex
  exact ⟨fun b hb => ⟨ownBlock_ge h2 (h4.trans hb), ownBlock_lt h2 (h4.trans hb)⟩, fun b hb => ⟨ownBlock_ge h3 (h5.trans hb), ownBlock_lt h3 (h5.trans hb)⟩⟩
/-- is new since w, or as it was -/
def NewB (w : World) (b b' : Option Nat) : Prop := b' = b ∨ b' = none ∨ ∃ x, b' = some x ∧ w.heap.size ≤ x
set_option maxRecDepth 100000 in
set_option maxHeartbeats 2000000 in
theorem rDo_ok {W0 w : World} {r : Nat} {C : Nat → Int} {L : List Int} {E : List (Int × Int)} {bl bs : Option Nat} {bb off n cap : Nat} (h : RLw W0 w r (.slice (some ⟨bb, off, none⟩) n cap) C L E bl bs) (o : OpB) (i : Nat) (hin : i < n) (hn : n ≤ maxLen)
    (hX : ∀ w', Keep [] W0 w' → Arg3 bb off o i w') (hf : o.fail = 0) (hL : L.length ≤ 1000) (hE : E.length ≤ 100000) :
    Calls Try.prog 20 #[.pointer (some ⟨r, 0, none⟩), .int .i64 i] w fun e w' => e = .returned (.int .i64 0) ∧ ∃ bl' bs', RLw W0 w' r (.slice (some ⟨bb, off, none⟩) n cap) (doC C o) (L ++ [(i : Int)]) (E ++ [(1, (i : Int))]) bl' bs' ∧ Keep (r :: bs.toList) w w' ∧ NewB w bl bl' ∧ NewB w bs bs' := by
  obtain ⟨c, a, f⟩ := o
  simp only at hf
  subst hf
  unfold maxLen at hn
  have hq := opQ_lt ⟨c, a, 0⟩
  have hqa := opQ_and ⟨c, a, 0⟩
  simp only at hqa
  obtain ⟨l0, l1, l2⟩ := hX w h.kp
  simp only at l0 l1 l2
  obtain ⟨Lv, Sv, h1, h2, h3, h4, h5⟩ := h.ex
  have r6 := cell_of_ob h1 6
  have hrl := ob_lt h1
  simp only [rO, List.getElem?_toArray, List.getElem?_cons_zero, List.getElem?_cons_succ] at r6
  have hA := h.new ((Keep.refl [] w).alloc (.cells #[.int .i64 c, .int .i64 a, .int .i64 0] 36))
  have hxo := al_new w (.cells #[.int .i64 c, .int .i64 a, .int .i64 0] 36) rfl
  have HC : Hid (doC C ⟨c, a, 0⟩ = updC C (opQ ⟨c, a, 0⟩) (wrap64 (C (opQ ⟨c, a, 0⟩) + a))) := Lib.hid rfl
  have HH := Lib.hid (And.intro h (And.intro hA hxo))
  have hi0 : (0 : Int) ≤ (i : Int) := by omega
  have hi1 : (i : Int) < (n : Int) := by omega
  clear h hX h1 h2 h3 h4 h5 hA hxo
  go_enter Try.func20, Try.ntmps20
  go_upto_region 2 with fail
  obtain ⟨h, hA, hxo⟩ := HH.out
  have hks : Keep [] w (w.alloc (.cells #[.int .i64 c, .int .i64 a, .int .i64 0] 36)) := (Keep.refl _ _).alloc _
  have hwx : w.heap.size < (w.alloc (.cells #[.int .i64 c, .int .i64 a, .int .i64 0] 36)).heap.size := by simp
  have hxw : w.heap.size ≤ w.heap.size := Nat.le_refl _
  obtain ⟨xo, hxe⟩ : ∃ xo, w.heap.size = xo := ⟨_, rfl⟩
  have HXE := Lib.hid hxe
  rw [hxe] at hxo ⊢
  generalize w.alloc (.cells #[.int .i64 c, .int .i64 a, .int .i64 0] 36) = wA at *
  obtain ⟨va, vc, va', vc', w1, bs1, g1, g2, g3, gk, gb, g4, ⟨g5, g6⟩, g7⟩ := hA.seen (1, (i : Int)) hE
  have hx1 := gk.kp hxo (fun hm => by
    rcases List.mem_cons.1 hm with e | hm
    · have := h.lt; omega
    · simp only [Option.mem_toList] at hm
      have := (h.blk.2 _ hm).2; omega)
  have H1 := Lib.hid (And.intro h (And.intro g3 (And.intro gk (And.intro gb (And.intro hx1 hks)))))
  clear h hA hxo g3 gk gb hx1 hks HH l0 l1 l2 r6 hwx hxw hxe
  generalize hLE : E.length = LE at *
  clear hLE
  go_upto_region 3 with (first
    | (at_builtin; refine wpList_append_eq rfl _ _ 28 rfl rfl rfl (g2 _) ?_))
  obtain ⟨h, hG, gk, gb, hx1, hks⟩ := H1.out
  generalize w1.setCell ⟨r, 5, none⟩ (.slice va' (LE + 1) vc') = w2 at *
  have e0 := cell_of_ob hx1 0
  have e1 := cell_of_ob hx1 1
  have e2 := cell_of_ob hx1 2
  simp only [List.getElem?_toArray, List.getElem?_cons_zero, List.getElem?_cons_succ] at e0 e1 e2
  obtain ⟨Lv2, Sv2, h12, -⟩ := hG.ex
  have cq := ro_cell h12 hq
  have fq := free_of_ob h12 (opQ ⟨c, a, 0⟩)
  have hP := hG.put hq (wrap64 (C (opQ ⟨c, a, 0⟩) + a))
  have hkP : Keep [r] w2 (w2.setCell ⟨r, opQ ⟨c, a, 0⟩, none⟩ (.int .i64 (wrap64 (C (opQ ⟨c, a, 0⟩) + a)))) := (Keep.refl _ _).setCell (.inl (by simp)) _ _
  have HP := Lib.hid (And.intro hP hkP)
  have hq4 : ((opQ ⟨c, a, 0⟩ : Nat) : Int) < 4 := by omega
  have hq0 : (0 : Int) ≤ ((opQ ⟨c, a, 0⟩ : Nat) : Int) := by omega
  generalize opQ ⟨c, a, 0⟩ = q at *
  generalize hCq : C q = x at *
  have HX := Lib.hid hCq
  clear hCq h hG gk gb hx1 hks h12 hP hkP g1 g2 g4 g6 g7 hrl
  go_upto_region 6 with fail
  go_still_tail 18, (by kernel_rfl)
  go_upto_region 7 with fail
  have hP := HP.out.1.new (Keep.refl _ _).drew
  have hkP := HP.out.2.drew
  generalize (w2.setCell ⟨r, q, none⟩ (.int .i64 (wrap64 (x + a)))).drew = w3 at *
  obtain ⟨Lv3, vd, vf, vd', vf', w4, w5, m1, m2, m3, ⟨bl', m4, m5⟩, mk, m6, ⟨m7, m8⟩, m9⟩ := hP.push (i : Int) hL
  have HM := Lib.hid (And.intro m4 (And.intro m5 (And.intro mk hkP)))
  clear HP hP hkP m4 m5 mk e0 e1 e2 cq fq hqa
  generalize hLL : L.length = LL at *
  clear hLL
  go_wp2_with (first
    | (at_builtin; refine wpList_append_eq rfl _ _ 32 rfl rfl rfl m2 ?_)
    | (at_builtin; refine wpList_append_eq rfl _ _ 32 rfl rfl rfl m3 ?_))
  go_ret
  obtain ⟨h, hG, gk, gb, hx1, hks⟩ := H1.out
  obtain ⟨m4, m5, mk, hkP⟩ := HM.out
  rw [HC.out]
  refine ⟨rfl, bl', bs1, m4, (((hks.mono (by simp)).trans gk).trans (hkP.mono (by simp))).trans (mk.mono (by simp)), ?_, ?_⟩
  · rcases m5 with e | ⟨b, e, hb⟩
    · exact .inr (.inl e)
    · refine .inr (.inr ⟨b, e, ?_⟩)
      have := hks.size
      have := gk.size
      have := hkP.size
      omega
  · rcases gb with e | ⟨b, e, hb⟩
    · exact .inl e
    · exact .inr (.inr ⟨b, e, by have := hks.size; omega⟩)
end Go.Proofs.Ytfljhfggjbkomaa
