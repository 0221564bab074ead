import Derived.RangeFuncBox
import Derived.Maps.AppendAt
import Derived.Test.YtfihnnijcaapkaaDoorVe
namespace Go.Proofs.YtfihnnijcaapkaaDoor
open Go.RowKit
set_option linter.unusedSimpArgs false
set_option linter.unusedVariables false
open Go.Shelf
attribute [local go_sem] Oper.semAt_some

theorem info3 : (Tryd.prog.info? 3).map (fun i => (i.zero, i.size, i.bytes)) = some (some (.int .i64 0), 1, 8) := by kernel_rfl
def nums (l : List Nat) : List Value := l.map fun (n : Nat) => Value.int .i64 (n : Int)
theorem nums_snoc (l : List Nat) (x : Nat) : nums (l ++ [x]) = nums l ++ [.int .i64 (x : Int)] := by simp [nums]
theorem boxed_beside {W w1 : World} {B B' : Nat} {t e : TypeId} {size k : Nat} {base : Nat} {u v v' : Value} {xs : List Value} {tmp : Obj} (h : Boxed W B' t u) (hte : t ≠ e) (hr : W.ownsRow base e size v k xs) (hg : (W.alloc tmp).grownBy w1 v.ownBlock) (hne : B' ≠ B) : Boxed (w1.setCell ⟨B, 0, none⟩ v') B' t u :=
  ((h.alloc tmp).kept hg (h.not_row hte hr)).kept (grownBy_setCell' w1 B v') (fun e => hne (by simpa using e))
theorem boxed_ownFrom {β : Type} (D B : Nat) (t : TypeId) (v : Value) : OwnFrom D (fun (_ : β) W => Boxed W B t v) :=
  Own.from (fun s X Y row hv hg hrow => Boxed.kept hv hg (fun e' => by
    obtain ⟨o, ho, hc⟩ := hrow B e'.symm
    rw [show X.heap[B]? = _ from hv] at ho; cases ho; cases hc)) D

theorem nilF_in (d : Nat) (f : Fn) (a b : Array Value) (w : World) : (Op.equalIn (d + 1) 46 (.func f a b) .nilFunc).run Tryd.prog w = .ok false w := by
  have h := run_underlying (P := Tryd.prog) Tryd.underlying46 w
  simp [Op.equalIn, h]
theorem nilF (f : Fn) (a b : Array Value) (w : World) : (binOp .eql 46 (.func f a b) .nilFunc).run Tryd.prog w = .ok (.bool false) w := by
  have h3 : (Op.equal 46 (.func f a b) .nilFunc).run Tryd.prog w = .ok false w := nilF_in 9999 f a b w
  simp [binOp, h3]
attribute [local go_sem] nilF
theorem app_in {F : Fence} {n : Nat} {ops : Array Oper} {rest : List Oper} {o : Oper} {a : Act} {Q : Exit → Act → World → Prop} (W : World) (hg : o.guard = none) (s x : Operand) (hop : o.op = Op.call { callee := Callee.builtin Builtin.append, args := #[s, x], argTypes := #[23, 23] })
    (n0 : Nat) (v : Value) (k : Nat) (xs : List Value) (hs : a.eval s = v) (hrow : W.ownsRow n0 3 1 v k xs) (y : Int) (hx : a.eval x = .slice (some ⟨W.heap.size, 0, none⟩) 1 1) (hk : k ≤ 1000) (hb : n0 ≤ W.heap.size)
    (hK : ∀ v' w', w'.ownsRow n0 3 1 v' (k + 1) (xs ++ [.int .i64 y]) → (W.alloc (.cells #[.int .i64 y] 3)).grownBy w' v.ownBlock → wpListIn F n Tryd.prog ops Q rest (a.put o.dst v') w') :
    wpListIn F n Tryd.prog ops Q (o :: rest) a (W.alloc (.cells #[.int .i64 y] 3)) := by
  obtain ⟨i0, hi, hz0, hz1, hz2⟩ := info_parts info3
  exact wpListIn_append_own _ hg s x 23 hop n0 3 i0 (.int .i64 0) 1 8 Tryd.underlying23 hi hz0 hz1 hz2 rfl (by decide) v k xs hs (hrow.alloc _) ⟨W.heap.size, 0, none⟩ 1 1 [.int .i64 y] hx rfl (cell_one_new _ _ _) (by simp [Value.oneCell']) (by unfold maxLen; omega) (by omega) (by simp; omega) (fun v' w' h1 h2 _ => hK v' w' h1 h2)
set_option maxRecDepth 100000 in
set_option maxHeartbeats 2000000 in
theorem told_in (n : Nat) (hn : 3 ≤ n) (p : Nat) (S : Nat → Bool) (w : World) (hp : p < w.heap.size) (hS : IsSet w p S) (hT : TabAt w) (hz : 0 < w.heap.size) :
    CallsIn Fence.wide n Tryd.prog 9 #[.pointer (some ⟨p, 0, none⟩)] w fun e W' => ∃ v, e = .returned v ∧ W'.ownsRow w.heap.size 3 1 v (memL S 256).length (nums (memL S 256)) ∧ Below w.heap.size w W' := by
  have h1 : 1 ≤ n := by omega
  refine callsIn_of_wp_marks Tryd.func9 rfl trivial ?_ rfl
  simp only [Tryd.ntmps9, List.size_toArray, List.length_cons, List.length_nil, Nat.reduceAdd, Nat.reduceSub, Array.replicate_succ, Array.replicate_zero, List.push_toArray, List.append_toArray, List.nil_append, List.cons_append]
  gi_wp2_with (refine ⟨trivial, ?_⟩; gi_at_call 18; refine (callsIn_wide.2 (sAll _ _)).mono ?_; rintro e w' ⟨rfl, rfl⟩)
  have bR := ((Boxed.new w 23 (.slice none 0 0)).alloc (.cells #[.slice none 0 0] 23)).alloc (.cells #[.pointer (some ⟨p, 0, none⟩)] 25)
  have bO := (Boxed.new (w.alloc (.cells #[.slice none 0 0] 23)) 23 (.slice none 0 0)).alloc (.cells #[.pointer (some ⟨p, 0, none⟩)] 25)
  have bN := Boxed.new ((w.alloc (.cells #[.slice none 0 0] 23)).alloc (.cells #[.slice none 0 0] 23)) 25 (.pointer (some ⟨p, 0, none⟩))
  simp only [World.size_alloc] at bO bN
  have hB0 : Below w.heap.size w (((w.alloc (.cells #[.slice none 0 0] 23)).alloc (.cells #[.slice none 0 0] 23)).alloc (.cells #[.pointer (some ⟨p, 0, none⟩)] 25)) := (((Below.refl _ w).alloc (Nat.le_refl _) _).alloc (by simp) _).alloc (by simp; omega) _
  have hk0 : Keep [] w (((w.alloc (.cells #[.slice none 0 0] 23)).alloc (.cells #[.slice none 0 0] 23)).alloc (.cells #[.pointer (some ⟨p, 0, none⟩)] 25)) := Keep.ofBelow hB0 []
  have hsz : (((w.alloc (.cells #[.slice none 0 0] 23)).alloc (.cells #[.slice none 0 0] 23)).alloc (.cells #[.pointer (some ⟨p, 0, none⟩)] 25)).heap.size = w.heap.size + 3 := by simp
  have hE : ItEnv w.heap.size (w.heap.size + 1 + 1) p S (((w.alloc (.cells #[.slice none 0 0] 23)).alloc (.cells #[.slice none 0 0] 23)).alloc (.cells #[.pointer (some ⟨p, 0, none⟩)] 25)) := ⟨hp, hz, hk0.size, bN, hS.keep hk0 (by simp), hT.keep hk0 hz (by simp)⟩
  clear hS hT
  generalize ((w.alloc (.cells #[.slice none 0 0] 23)).alloc (.cells #[.slice none 0 0] 23)).alloc (.cells #[.pointer (some ⟨p, 0, none⟩)] 25) = w3 at *
  refine wpIn_rangeFunc_ownG rfl h1 (gf := 21) (lb := #[.pointer (some ⟨w.heap.size + 1 + 1, 0, none⟩)]) rfl trivial (enters_of Tryd.func21 (by kernel_rfl) rfl)
    (iter_stops (n - 1) (by omega) (w.heap.size + 1 + 1) w.heap.size p S w3 (by omega) hE) Kp.trans (Kp.book (by omega) (by omega)) (Below.refl _ _) (fun _ => rfl)
    (fun pre W => ((∃ v, Boxed W (w.heap.size + 1) 23 v ∧ W.ownsRow w.heap.size 3 1 v pre.length (nums (valL pre)) ∧ True) ∧ Below w.heap.size w W) ∧ Boxed W w.heap.size 23 (.slice none 0 0) ∧ Boxed W (w.heap.size + 1 + 1) 25 (.pointer (some ⟨p, 0, none⟩)))
    (fun _ _ _ => False)
    (OwnFrom.and (OwnFrom.and (Own.from (holdsRow_own w.heap.size (w.heap.size + 1) 23 3 1 (fun pre => pre.length) (fun pre => nums (valL pre)) (fun _ _ => True)) _) (ownFrom_below (Nat.le_refl _) (by omega))) (OwnFrom.and (boxed_ownFrom _ _ _ _) (boxed_ownFrom _ _ _ _)))
    (fun _ _ _ _ _ hs _ _ => hs)
    ⟨⟨⟨_, bO, World.ownsRow_nil _ _ _ _, trivial⟩, hB0⟩, bR, bN⟩
    (fun x => { tmps := #[.pointer (some ⟨p, 0, none⟩), undef, .pointer (some ⟨w.heap.size, 0, none⟩), .pointer (some ⟨w.heap.size + 1, 0, none⟩), .func (.func 21) #[] #[.pointer (some ⟨w.heap.size + 1 + 1, 0, none⟩)], .int .i64 (x.val : Int), .pointer (some ⟨p, 0, none⟩), .func (.func 21) #[] #[.pointer (some ⟨w.heap.size + 1 + 1, 0, none⟩)], .func (.func 21) #[] #[.pointer (some ⟨w.heap.size + 1 + 1, 0, none⟩)], .bool false, .func (.func 21) #[] #[.pointer (some ⟨w.heap.size + 1 + 1, 0, none⟩)], .int .i64 (x.val : Int), undef, undef, undef, undef, undef, undef, undef, undef], defers := [] }) ?assign ?body ?done ?stop
  case assign =>
    intro l x W K hK
    gi_wp2
    exact hK
  case body =>
    rintro l pre x W ⟨⟨⟨v, hv, hrow, _⟩, hB⟩, hR, hN⟩ hlt
    have hc := hv.cell
    have hle : pre.length ≤ 256 := by omega
    obtain ⟨va, vc, rfl⟩ := owns_slice hrow
    clear bR bO bN hB0 hk0 hE
    have hlen : ((pre.length : Nat) : Int) ≤ 256 := by omega
    have hR2 := fun (v' : Value) (w1 : World) (hg : (W.alloc (.cells #[.int .i64 (x.val : Int)] 3)).grownBy w1 (Value.slice va pre.length vc).ownBlock) => boxed_beside hR (B := w.heap.size + 1) (v' := v') (by decide) hrow hg (by omega)
    have hN2 := fun (v' : Value) (w1 : World) (hg : (W.alloc (.cells #[.int .i64 (x.val : Int)] 3)).grownBy w1 (Value.slice va pre.length vc).ownBlock) => boxed_beside hN (B := w.heap.size + 1) (v' := v') (by decide) hrow hg (by omega)
    gi_wp2_with (gi_at_builtin; refine app_in W rfl (.tmp 15) (.tmp 17) rfl _ _ _ _ rfl hrow _ rfl (by omega) hB.size ?_; intro v' w1 hown' hgrow; obtain ⟨g', cap', rfl⟩ := ownsRow_succ hown'; obtain ⟨hv1, hv2, hr2, hk2, hb2⟩ := hv.appended (by decide) hrow hB.size (by omega) hown' hgrow; have hc1 := hv1.cell; have hf1 := hv1.frozen)
    exact ⟨hk2.from _, ⟨hb2, (hN2 _ _ hgrow).trans hN.symm⟩, ⟨⟨⟨_, hv2, by rw [valL_snoc, nums_snoc]; simpa using hr2, trivial⟩, hB.trans hb2⟩, hR2 _ _ hgrow, hN2 _ _ hgrow⟩⟩
  case done =>
    rintro D ys W hD hys ⟨⟨⟨v, hv, hrow, _⟩, hB⟩, hR, hN⟩ hK
    have hc := hv.cell
    have hlr := hR.lt
    have hfr := hR.frozen
    have hcr := hR.cell
    obtain ⟨va, vc, rfl⟩ := owns_slice hrow
    clear bR bO bN hB0 hk0 hE
    have hl : ys.length = (memL S 256).length := by rw [← hys, valL_len]
    rw [hl, hys] at hrow
    rw [hl] at hc hv
    gi_wp2
    have hD2 : D ≠ w.heap.size := by omega
    have hb4 : Below w.heap.size W (W.setCell ⟨w.heap.size, 0, none⟩ (.slice va (memL S 256).length vc)) := (Below.refl _ W).setCell (p := ⟨w.heap.size, 0, none⟩) (Nat.le_refl _) _
    have hR4 := hR.set (.slice va (memL S 256).length vc)
    have hrow4 := hrow.kept (grownBy_setCell' W w.heap.size (.slice va (memL S 256).length vc)) (.inr (hR.not_row (by decide) hrow).symm)
    have hK4 := (KeepsOthers.setCell W ⟨w.heap.size, 0, none⟩ (.slice va (memL S 256).length vc)).same D _ hK rfl
    generalize W.setCell ⟨w.heap.size, 0, none⟩ (.slice va (memL S 256).length vc) = W4 at *
    refine ⟨by simp, .inl ⟨_, _, rfl, run_takeDeferred hK4, ?_⟩⟩
    have hc5 := (hR4.kept (grownBy_putObj' W4 D (.deferred none)) (by simpa using hD2.symm)).cell
    refine ⟨.slice va (memL S 256).length vc, ?_, _, rfl, ownsRow_putObj hrow4 _ hK4 rfl, hB.trans (hb4.trans (belowK_b (w := w) (Nat.le_refl _) W4 D _ _ (by omega) hK4 rfl rfl))⟩
    generalize W4.putObj D (.deferred none) = W5 at *
    simp [results, Tryd.f9, hc5]
    go_simp
  case stop =>
    rintro D c pre W _ _ h _
    exact h.elim
theorem told (p : Nat) (S : Nat → Bool) (w : World) (hS : IsSet w p S) (hT : TabAt w) :
    Calls Tryd.prog 9 #[.pointer (some ⟨p, 0, none⟩)] w fun e w' => ∃ va vc, e = .returned (.slice va (memL S 256).length vc) ∧ w'.ownsRow w.heap.size 3 1 (.slice va (memL S 256).length vc) (memL S 256).length (nums (memL S 256)) ∧ Keep [] w w' := by
  have hp := ob_lt hS
  refine ((callsIn_wide (n := 3)).1 (told_in 3 (Nat.le_refl _) p S w hp hS hT (by omega))).mono ?_
  rintro e w' ⟨v, h1, h2, h3⟩
  obtain ⟨va, vc, rfl⟩ := owns_slice h2
  exact ⟨va, vc, h1, h2, Keep.ofBelow h3 []⟩
end Go.Proofs.YtfihnnijcaapkaaDoor
