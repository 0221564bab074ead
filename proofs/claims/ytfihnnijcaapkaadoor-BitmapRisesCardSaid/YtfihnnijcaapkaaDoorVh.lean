import Derived.Test.YtfihnnijcaapkaaDoorVg
namespace Go.Proofs.YtfihnnijcaapkaaDoor
open Go.RowKit
set_option linter.unusedSimpArgs false
set_option linter.unusedVariables false
open Go.Shelf
attribute [local go_sem] Oper.semAt_some

structure GB (w : World) (p : Nat) (many en : Int) (W : World) (f : Nat) : Prop where
  bm : Boxed W w.heap.size 3 (.int .i64 many)
  be : Boxed W (w.heap.size + 1) 3 (.int .i64 en)
  bf : Boxed W (w.heap.size + 1 + 1) 3 (.int .i64 (f : Int))
  bn : Boxed W (w.heap.size + 1 + 1 + 1) 25 (.pointer (some ⟨p, 0, none⟩))
  lo : Below w.heap.size w W
theorem boxed_turn {W W' : World} {row : Option Nat} {B : Nat} {t : TypeId} {v : Value} (h : Boxed W B t v) (hg : W.grownBy W' row) (hr : ∀ r, row = some r → ∃ o : Obj, W.heap[r]? = some o ∧ o.isCells = false) : Boxed W' B t v :=
  Boxed.kept h hg (fun e' => by
    obtain ⟨o, ho, hc⟩ := hr B e'.symm
    rw [show W.heap[B]? = _ from h] at ho; cases ho; cases hc)
theorem GB.turn {w : World} {p : Nat} {many en : Int} {W W' : World} {f D : Nat} {row : Option Nat} (h : GB w p many en W f) (hD : w.heap.size ≤ D) (hg : W.grownBy W' row) (hr : ∀ r, row = some r → D ≤ r ∧ ∃ o : Obj, W.heap[r]? = some o ∧ o.isCells = false) : GB w p many en W' f :=
  ⟨boxed_turn h.bm hg (fun r e => (hr r e).2), boxed_turn h.be hg (fun r e => (hr r e).2), boxed_turn h.bf hg (fun r e => (hr r e).2), boxed_turn h.bn hg (fun r e => (hr r e).2), h.lo.grown hg h.lo.size (fun k e => Nat.le_trans hD (hr k e).1)⟩
theorem GB.set {w : World} {p : Nat} {many en : Int} {W : World} {f : Nat} (h : GB w p many en W f) (g : Nat) : GB w p many en (W.setCell ⟨w.heap.size + 1 + 1, 0, none⟩ (.int .i64 (g : Int))) g :=
  ⟨h.bm.kept (grownBy_setCell' W _ _) (by simp; omega), h.be.kept (grownBy_setCell' W _ _) (by simp), h.bf.set _, h.bn.kept (grownBy_setCell' W _ _) (by simp), h.lo.setCell (p := ⟨w.heap.size + 1 + 1, 0, none⟩) (by show w.heap.size ≤ w.heap.size + 1 + 1; omega) _⟩
set_option maxRecDepth 100000 in
set_option maxHeartbeats 2000000 in
theorem gap_in (n : Nat) (hn : 3 ≤ n) (p : Nat) (S : Nat → Bool) (w : World) (hp : p < w.heap.size) (hS : IsSet w p S) (hT : TabAt w) (hz : 0 < w.heap.size) (many en : Int) :
    CallsIn Fence.wide n Tryd.prog 14 #[.pointer (some ⟨p, 0, none⟩), .int .i64 many, .int .i64 en] w fun e W' => ∃ g, e = .returned (.int .i64 g) ∧ GapP S many en g ∧ Below w.heap.size w W' := by
  have h1 : 1 ≤ n := by omega
  refine callsIn_of_wp_marks Tryd.func14 rfl trivial ?_ rfl
  simp only [Tryd.ntmps14, List.size_toArray, List.length_cons, List.length_nil, Nat.reduceAdd, Nat.reduceSub, Array.replicate_succ, Array.replicate_zero, List.push_toArray, List.append_toArray, List.nil_append, List.cons_append]
  by_cases g1 : many < 1
  · have HG := Lib.hid (show GapP S many en (-1) from .inl ⟨rfl, .inl g1⟩)
    have HB := Lib.hid (show Below w.heap.size w ((w.alloc (.cells #[.int .i64 many] 3)).alloc (.cells #[.int .i64 en] 3)) from ((Below.refl _ w).alloc (Nat.le_refl _) _).alloc (by simp) _)
    clear hS hT
    gi_wp2
    exact ⟨_, results_tmp rfl _ _ _, _, rfl, HG.out, HB.out⟩
  · by_cases g2 : en < 0
    · have g1' : 1 ≤ many := by omega
      have HG := Lib.hid (show GapP S many en (-1) from .inl ⟨rfl, .inr (.inl g2)⟩)
      have HB := Lib.hid (show Below w.heap.size w ((w.alloc (.cells #[.int .i64 many] 3)).alloc (.cells #[.int .i64 en] 3)) from ((Below.refl _ w).alloc (Nat.le_refl _) _).alloc (by simp) _)
      clear hS hT g1
      gi_wp2
      exact ⟨_, results_tmp rfl _ _ _, _, rfl, HG.out, HB.out⟩
    · by_cases g3 : 256 < en
      · have g1' : 1 ≤ many := by omega
        have g2' : 0 ≤ en := by omega
        have HG := Lib.hid (show GapP S many en (-1) from .inl ⟨rfl, .inr (.inr (.inl g3))⟩)
        have HB := Lib.hid (show Below w.heap.size w ((w.alloc (.cells #[.int .i64 many] 3)).alloc (.cells #[.int .i64 en] 3)) from ((Below.refl _ w).alloc (Nat.le_refl _) _).alloc (by simp) _)
        clear hS hT g1 g2
        gi_wp2
        exact ⟨_, results_tmp rfl _ _ _, _, rfl, HG.out, HB.out⟩
      · have g1' : 1 ≤ many := by omega
        have g2' : 0 ≤ en := by omega
        have g3' : en ≤ 256 := by omega
        have d1 : decide (many < 1) = false := by simpa using g1'
        have d2 : decide (en < 0) = false := by simpa using g2'
        have d3 : decide (256 < en) = false := by simpa using g3'
        clear g1 g2 g3
        gi_wp2_with (refine ⟨trivial, ?_⟩; gi_at_call 18; refine (callsIn_wide.2 (sAll _ _)).mono ?_; rintro e w' ⟨rfl, rfl⟩)
        have hb : GB w p many en ((((w.alloc (.cells #[.int .i64 many] 3)).alloc (.cells #[.int .i64 en] 3)).alloc (.cells #[.int .i64 0] 3)).alloc (.cells #[.pointer (some ⟨p, 0, none⟩)] 25)) 0 := by
          have bm := (((Boxed.new w 3 (.int .i64 many)).alloc (.cells #[.int .i64 en] 3)).alloc (.cells #[.int .i64 0] 3)).alloc (.cells #[.pointer (some ⟨p, 0, none⟩)] 25)
          have be := ((Boxed.new (w.alloc (.cells #[.int .i64 many] 3)) 3 (.int .i64 en)).alloc (.cells #[.int .i64 0] 3)).alloc (.cells #[.pointer (some ⟨p, 0, none⟩)] 25)
          have bf := (Boxed.new ((w.alloc (.cells #[.int .i64 many] 3)).alloc (.cells #[.int .i64 en] 3)) 3 (.int .i64 0)).alloc (.cells #[.pointer (some ⟨p, 0, none⟩)] 25)
          have bn := Boxed.new (((w.alloc (.cells #[.int .i64 many] 3)).alloc (.cells #[.int .i64 en] 3)).alloc (.cells #[.int .i64 0] 3)) 25 (.pointer (some ⟨p, 0, none⟩))
          simp only [World.size_alloc] at be bf bn
          exact ⟨bm, be, bf, bn, ((((Below.refl _ w).alloc (Nat.le_refl _) _).alloc (by simp) _).alloc (by simp; omega) _).alloc (by simp; omega) _⟩
        have hk0 : Keep [] w ((((w.alloc (.cells #[.int .i64 many] 3)).alloc (.cells #[.int .i64 en] 3)).alloc (.cells #[.int .i64 0] 3)).alloc (.cells #[.pointer (some ⟨p, 0, none⟩)] 25)) := Keep.ofBelow hb.lo []
        have hsz : ((((w.alloc (.cells #[.int .i64 many] 3)).alloc (.cells #[.int .i64 en] 3)).alloc (.cells #[.int .i64 0] 3)).alloc (.cells #[.pointer (some ⟨p, 0, none⟩)] 25)).heap.size = w.heap.size + 4 := by simp
        have hE : ItEnv w.heap.size (w.heap.size + 1 + 1 + 1) p S ((((w.alloc (.cells #[.int .i64 many] 3)).alloc (.cells #[.int .i64 en] 3)).alloc (.cells #[.int .i64 0] 3)).alloc (.cells #[.pointer (some ⟨p, 0, none⟩)] 25)) := ⟨hp, hz, hk0.size, hb.bn, hS.keep hk0 (by simp), hT.keep hk0 hz (by simp)⟩
        clear hS hT d1 d2 d3 hk0
        generalize ((((w.alloc (.cells #[.int .i64 many] 3)).alloc (.cells #[.int .i64 en] 3)).alloc (.cells #[.int .i64 0] 3)).alloc (.cells #[.pointer (some ⟨p, 0, none⟩)] 25)) = w3 at *
        refine wpIn_rangeFunc_ownG rfl h1 (gf := 21) (lb := #[.pointer (some ⟨w.heap.size + 1 + 1 + 1, 0, none⟩)]) rfl trivial (enters_of Tryd.func21 (by kernel_rfl) rfl)
          (iter_stops (n - 1) (by omega) (w.heap.size + 1 + 1 + 1) w.heap.size p S w3 (by omega) hE) Kp.trans (Kp.book (by omega) (by omega)) (Below.refl _ _) (fun _ => rfl)
          (fun pre W => GB w p many en W (fromOf pre) ∧ NB many en pre)
          (fun c pre W => c = .exit 0 ∧ ∃ q x, pre = q ++ [x] ∧ GB w p many en W (fromOf q) ∧ NB many en q ∧ (en ≤ (x.val : Int) ∨ many ≤ (x.val : Int) - fromOf q))
          (fun s A B row h hg hr => ⟨h.1.turn (by omega) hg hr, h.2⟩)
          (fun c s A B row h hg hr => by
            obtain ⟨hc, q, x, e, h1, h2⟩ := h
            exact ⟨hc, q, x, e, h1.turn (by omega) hg hr, h2⟩)
          ⟨hb, NB.nil _ _⟩
          (fun x => { tmps := #[.pointer (some ⟨p, 0, none⟩), .int .i64 many, .int .i64 en, undef, .pointer (some ⟨w.heap.size, 0, none⟩), .pointer (some ⟨w.heap.size + 1, 0, none⟩), .int .i64 0, .pointer (some ⟨w.heap.size + 1 + 1, 0, none⟩), .int .i64 (x.val : Int), .int .i64 many, .bool false, .bool false, .int .i64 en, .bool false, .bool false, .bool false, .int .i64 en, .bool false, .bool false, .pointer (some ⟨p, 0, none⟩), .func (.func 21) #[] #[.pointer (some ⟨w.heap.size + 1 + 1 + 1, 0, none⟩)], .int .i64 (x.val : Int), undef, undef, undef, undef, undef, undef, undef, undef, undef, undef, undef, undef, undef, undef, undef, undef, undef, undef], defers := [] }) ?assign ?body ?done ?stop
        case assign =>
          intro l x W K hK
          gi_wp2
          exact hK
        case body =>
          rintro l pre x W ⟨hG, hN⟩ hlt
          have cm := hG.bm.cell
          have ce := hG.be.cell
          have cf := hG.bf.cell
          have ff := hG.bf.frozen
          have hfl := fromOf_le pre
          have hx := x.isLt
          clear hb hE
          by_cases hxe : en ≤ (x.val : Int)
          · have HG := Lib.hid (And.intro hG hN)
            clear hG hN
            gi_wp2
            exact ⟨KeepsFrom.refl _ _, rfl, pre, x, rfl, HG.out.1, HG.out.2, .inl hxe⟩
          · by_cases hxm : many ≤ (x.val : Int) - fromOf pre
            · have HG := Lib.hid (And.intro hG hN)
              have hxe' : (x.val : Int) < en := by omega
              have d4 : decide (en ≤ (x.val : Int)) = false := by simpa using hxe'
              clear hG hN hxe
              gi_wp2
              exact ⟨KeepsFrom.refl _ _, rfl, pre, x, rfl, HG.out.1, HG.out.2, .inr hxm⟩
            · have hxe' : (x.val : Int) < en := by omega
              have hxm' : (x.val : Int) - fromOf pre < many := by omega
              have d4 : decide (en ≤ (x.val : Int)) = false := by simpa using hxe'
              have d5 : decide (many ≤ (x.val : Int) - fromOf pre) = false := by simpa using hxm'
              have HG := Lib.hid (And.intro hG (hN.snoc hxe' hxm'))
              clear hG hN hxe hxm
              gi_wp2
              have hg := HG.out.1.set (x.val + 1)
              rw [show ((x.val + 1 : Nat) : Int) = (x.val : Int) + 1 by omega] at hg
              exact ⟨(KeepsOthers.setCell _ _ _).from _, ⟨(Below.refl _ W).setCell (p := ⟨w.heap.size + 1 + 1, 0, none⟩) (by show w.heap.size ≤ w.heap.size + 1 + 1; omega) _, hg.bn.trans HG.out.1.bn.symm⟩, by rw [fromOf_snoc]; exact hg, HG.out.2⟩
        case done =>
          rintro D ys W hD hys ⟨hG, hN⟩ hK
          have HG := Lib.hid (gap_done S many en g1' g2' g3' ys hN hys)
          have cm := hG.bm.cell
          have ce := hG.be.cell
          have cf := hG.bf.cell
          have hfl := fromOf_le ys
          have HB := Lib.hid (hG.lo.trans (belowK_b (w := w) (Nat.le_refl _) W D _ (.deferred none) (by omega) hK rfl rfl))
          clear hb hE hG hN hys
          generalize fromOf ys = f at *
          by_cases hfm : en - (f : Int) < many
          · gi_wp2
            refine ⟨by simp, .inl ⟨_, _, rfl, run_takeDeferred hK, ?_⟩⟩
            exact ⟨_, results_tmp rfl _ _ _, _, rfl, by have := HG.out; rw [if_pos hfm] at this; exact this, HB.out⟩
          · gi_wp2
            refine ⟨by simp, .inl ⟨_, _, rfl, run_takeDeferred hK, ?_⟩⟩
            exact ⟨_, results_tmp rfl _ _ _, _, rfl, by have := HG.out; rw [if_neg (by omega)] at this; exact this, HB.out⟩
        case stop =>
          rintro D c pre W hD hpre ⟨rfl, q, x, rfl, hG, hN, hx⟩ hK
          have HG := Lib.hid (gap_stop S many en g1' g2' g3' q x hN hpre hx)
          have cm := hG.bm.cell
          have ce := hG.be.cell
          have cf := hG.bf.cell
          have hfl := fromOf_le q
          have HB := Lib.hid (hG.lo.trans (belowK_b (w := w) (Nat.le_refl _) W D _ (.deferred none) (by omega) hK rfl rfl))
          clear hb hE hG hN hpre hx
          generalize fromOf q = f at *
          by_cases hfm : en - (f : Int) < many
          · gi_wp2
            refine ⟨by simp, .inl ⟨_, _, rfl, run_takeDeferred hK, ?_⟩⟩
            exact ⟨_, results_tmp rfl _ _ _, _, rfl, by have := HG.out; rw [if_pos hfm] at this; exact this, HB.out⟩
          · gi_wp2
            refine ⟨by simp, .inl ⟨_, _, rfl, run_takeDeferred hK, ?_⟩⟩
            exact ⟨_, results_tmp rfl _ _ _, _, rfl, by have := HG.out; rw [if_neg (by omega)] at this; exact this, HB.out⟩
theorem gap (p : Nat) (S : Nat → Bool) (w : World) (hS : IsSet w p S) (hT : TabAt w) (many en : Int) :
    Calls Tryd.prog 14 #[.pointer (some ⟨p, 0, none⟩), .int .i64 many, .int .i64 en] w fun e w' => ∃ g, e = .returned (.int .i64 g) ∧ GapP S many en g ∧ Keep [] w w' := by
  have hp := ob_lt hS
  refine ((callsIn_wide (n := 3)).1 (gap_in 3 (Nat.le_refl _) p S w hp hS hT (by omega) many en)).mono ?_
  rintro e w' ⟨g, h1, h2, h3⟩
  exact ⟨g, h1, h2, Keep.ofBelow h3 []⟩
end Go.Proofs.YtfihnnijcaapkaaDoor
