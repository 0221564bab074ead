import Derived.RangeFuncNested
import Derived.RangeFuncBox
import Derived.Test.YtfihnnijcaapkaaDoorVn
namespace Go.Proofs.YtfihnnijcaapkaaDoor
open Go.RowKit
set_option linter.unusedSimpArgs false
set_option linter.unusedVariables false
attribute [local go_sem] ob_alloc ob_drew ob_drewN ob_setCell ob_setBlock objSet_cells obMap_map obClock_map isMapI_map keyI_mk findI_nil findI_cons lookRes_some lookRes_none lookRes_some' lookRes_none' setBlock_alloc mapPut
open Go.Shelf
attribute [local go_sem ↓] Go.wp_at_zero Go.wp_at_succ
attribute [local go_sem] Oper.semAt_some nilF

theorem memL_mono (S : Nat → Bool) (n : Nat) : (memL S n).Pairwise (· < ·) := List.Pairwise.filter _ List.pairwise_lt_range
theorem memL_lt {S : Nat → Bool} {n i j x y : Nat} (hx : (memL S n)[i]? = some x) (hy : (memL S n)[j]? = some y) (h : i < j) : x < y := by
  have hp := memL_mono S n
  rw [List.pairwise_iff_getElem] at hp
  obtain ⟨h1, rfl⟩ := List.getElem?_eq_some_iff.1 hx
  obtain ⟨h2, rfl⟩ := List.getElem?_eq_some_iff.1 hy
  exact hp i j h1 h2 h
theorem range_skip {α : Type} {F : Fence} {n : Nat} {P : Program} {g : Operand} {p : Tmp} {body : Code} {Q : Exit → Act → World → Prop} {a : Act} {w : World}
    (hro : F.round = none) (h1 : 1 ≤ n) {gf : Nat} {lb : Array Value} (hg : a.eval g = .func (.func gf) #[] lb) (hFg : F.fn gf) (eg : ∀ args w, (callFunc gf args).run P w = .ok (.enter gf args) w)
    {e : α → Value} {Kp : World → World → Prop} {S Sp : List α → Prop} {N : Nat} {w0 : World} (hseq : SeqStopsK F (n - 1) P gf lb (fun x => #[e x]) Kp S Sp N w0)
    (hKt : ∀ {A B C : World}, Kp A B → Kp B C → Kp A C) (hKb : ∀ (W : World) (l : Nat) (o o' : Obj), w.heap.size ≤ l → W.heap[l]? = some o → o.isCells = false → o.isWalk = false → Kp W (W.putObj l o')) (hb0 : Below w0.heap.size w0 w)
    (I : List α → World → Prop) (Ix : Code → List α → World → Prop) (hI : OwnFrom w.heap.size I) (hIx : ∀ c, OwnFrom w.heap.size (Ix c)) (h0 : I [] w)
    (hbody : ∀ (l : Nat) (pre : List α) (x : α) (W : World), I pre W → pre.length < N → body.wpIn (F.inRound l) (n - 1 - 1) P (ownPostG w.heap.size Kp I Ix (pre ++ [x]) W) { tmps := a.tmps.setIfInBounds p (e x), defers := [] } W)
    (hdone : ∀ (D : Nat) (xs : List α) (W : World), w.heap.size ≤ D → S xs → I xs W → W.heap[D]? = some (.deferred (some [])) → Q .normal { a with defers := { target := .collected D, args := #[] } :: a.defers } W)
    (hstop : ∀ (D : Nat) (c : Code) (pre : List α) (W : World), w.heap.size ≤ D → Sp pre → Ix c pre W → W.heap[D]? = some (.deferred (some [])) → c.wpIn F n P Q { a with defers := { target := .collected D, args := #[] } :: a.defers } W) :
    (Code.rangeFunc g #[p] Code.skip body).wpIn F n P Q a w :=
  wpIn_rangeFunc_ownG hro h1 hg hFg eg hseq hKt hKb hb0 (fun _ => rfl) I Ix hI hIx h0 (fun x => { tmps := a.tmps.setIfInBounds p (e x), defers := [] })
    (fun l x W K hK => by
      have e1 : Array.foldl (fun t (x : Tmp × Value) => t.setIfInBounds x.1 x.2) a.tmps (#[p].zip #[e x]) = a.tmps.setIfInBounds p (e x) := by simp
      gi_wp2
      rw [e1]
      exact hK) hbody hdone hstop
/-- few, beside what the iterator reads -/
structure GR (w : World) (n0 p : Nat) (W : World) (f : Nat) : Prop where
  bf : Boxed W n0 3 (.int .i64 (f : Int))
  bn : Boxed W (n0 + 1) 25 (.pointer (some ⟨p, 0, none⟩))
  lo : Below n0 w W
theorem GR.turn {w : World} {n0 p : Nat} {W W' : World} {f D : Nat} {row : Option Nat} (h : GR w n0 p W f) (hw : n0 ≤ w.heap.size) (hD : n0 ≤ D) (hg : W.grownBy W' row) (hr : ∀ r, row = some r → D ≤ r ∧ ∃ o : Obj, W.heap[r]? = some o ∧ o.isCells = false) : GR w n0 p W' f :=
  ⟨boxed_turn h.bf hg (fun r e => (hr r e).2), boxed_turn h.bn hg (fun r e => (hr r e).2), h.lo.grown hg (Nat.le_trans hw h.lo.size) (fun k e => Nat.le_trans hD (hr k e).1)⟩
theorem GR.set {w : World} {n0 p : Nat} {W : World} {f : Nat} (h : GR w n0 p W f) (g : Nat) : GR w n0 p (W.setCell ⟨n0, 0, none⟩ (.int .i64 (g : Int))) g :=
  ⟨h.bf.set _, h.bn.kept (grownBy_setCell' W _ _) (by simp), h.lo.setCell (p := ⟨n0, 0, none⟩) (Nat.le_refl _) _⟩
set_option maxRecDepth 100000 in
set_option maxHeartbeats 4000000 in
theorem rises03 (W0 : World) (hT : TabAt W0) (hz : 0 < W0.heap.size) (v0 : Value) (xs : List (List Value)) (hv : RdA W0 2 v0 xs) (hx : ∀ c ∈ xs, GCells W0 [.int .i64, .bool] c) (nn : Int) :
    Calls Tryd.prog 6 #[v0, .int .i64 nn] W0 fun o w' => o = .returned (.bool true) ∧ Keep [] W0 w' := by
  obtain ⟨W1, hW1⟩ : ∃ W1, W0.alloc (.cells #[.int .i64 nn] 3) = W1 := ⟨_, rfl⟩
  have k01 : Keep [] W0 W1 := hW1 ▸ (Keep.refl _ _).alloc _
  have hT1 := hT.keep k01 hz (by simp)
  have hz1 : 0 < W1.heap.size := Nat.lt_of_lt_of_le hz k01.size
  have hv := hv.keep k01 (by simp)
  have hx : ∀ c ∈ xs, GCells W1 [.int .i64, .bool] c := fun c hc => (hx c hc).keep k01
  have hbn : ob W1 W0.heap.size = some (.cells #[.int .i64 nn] 3 (0, 0)) := by rw [← hW1]; exact al_new W0 (.cells #[.int .i64 nn] 3) rfl
  obtain ⟨a0, cap0, rfl, hc1, hc2⟩ := hv.len
  unfold maxLen at hc2
  generalize hn : xs.length = n at *
  have HA := Lib.hid (awake03 W1 W1 (Keep.refl _ _) hT1 hz1)
  have HT := Lib.hid (And.intro hT1 (And.intro hz1 (And.intro k01 hbn)))
  clear hT hz hT1 hz1 k01 hbn
  refine (callsIn_wide (n := 3)).1 ?_
  refine callsIn_of_wp_marks Tryd.func6 rfl trivial ?_ rfl
  simp only [Tryd.ntmps6, List.size_toArray, List.length_cons, List.length_nil, Nat.reduceAdd, Nat.reduceSub, Array.replicate_succ, Array.replicate_zero, List.push_toArray, List.append_toArray, List.nil_append, List.cons_append]
  refine wpIn_wide.2 ?_
  go_wp2_with fail
  generalize W0.heap.size = nb at *
  clear hW1
  refine HA.out.mono ?_
  rintro _ w1 ⟨rfl, hk1⟩
  have HS := Lib.hid (SE.begin hk1 HT.out.1 HT.out.2.1)
  clear hk1 HA
  go_wp2_with fail
  have hs := HS.out
  clear HS
  generalize w1.alloc (.cells #[.int .u64 0, .int .u64 0, .int .u64 0, .int .u64 0] 29) = w2 at *
  generalize w1.heap.size = p at *
  have HS := Lib.hid hs
  clear hs
  go_loopg [7] n (fun gn s7 wr => ∃ k : Nat, s7 = .int .i64 k ∧ k ≤ n ∧ k ≤ 300 ∧ gn = n - k ∧ SE W1 wr p (opsS (ops2 xs) k))
  case atStart => exact ⟨0, rfl, by omega, by omega, by omega, HS.out⟩
  case round =>
    obtain ⟨k, rfl, hk, hk2, rfl, hs⟩ := hrel
    by_cases hgo : k < n ∧ k < 300
    · obtain ⟨hlt, hl2⟩ := hgo
      obtain ⟨bb, off, cap', hveq, hbb, hXA⟩ := args2 hv hx (by omega)
      simp only [Value.slice.injEq, hn, true_and] at hveq
      obtain ⟨rfl, rfl⟩ := hveq
      rw [hn] at hXA
      obtain ⟨l0, l1⟩ := hXA wr hs.kp k (by omega)
      have HC : Hid (Calls Tryd.prog 8 #[.pointer (some ⟨p, 0, none⟩), .int .i64 (ops2 xs k).1, .bool (ops2 xs k).2] wr.drew fun e w' => e = .returned (.bool (inR (ops2 xs k).1)) ∧ SE W1 w' p (opsS (ops2 xs) (k + 1)) ∧ w'.cell? ⟨bb, off + k * 2, none⟩ = some (.int .i64 (ops2 xs k).1) ∧ w'.cell? ⟨bb, off + k * 2 + 1, none⟩ = some (.bool (ops2 xs k).2)) := Lib.hid (((hs.new (Keep.refl _ _).drew).put _ _).mono (fun e w' ⟨h1, h2, h3⟩ => ⟨h1, h2, hXA w' h2.kp k (by omega)⟩))
      generalize (ops2 xs k).1 = a at *
      generalize (ops2 xs k).2 = b at *
      have hkn : (k : Int) + 1 ≤ 301 := by omega
      clear hv hx hXA hs
      go_wp2_with fail
      go_region_held3 (fun w' => w'.cell? ⟨bb, off + k * 2, none⟩ = some (.int .i64 a) ∧ w'.cell? ⟨bb, off + k * 2 + 1, none⟩ = some (.bool b)) (first | exact ⟨l0, l1⟩ | exact ⟨m0, m1⟩ | go_keep)
        (first | (go_at_call 8; refine HC.out.mono ?_; rintro _ w5 ⟨rfl, hs, m0, m1⟩))
      all_goals
        have HS := Lib.hid hs
        clear hs HC l0 l1 m0 m1
        go_wp2_with fail
        go_roundg (n - (k + 1))
        case measure => omega
        case rel => exact ⟨k + 1, by go_num, by omega, by omega, rfl, HS.out⟩
    · clear hv hx HS
      have hs' := Lib.hid hs
      clear hs
      rcases Nat.lt_or_ge k n with hlt | hlt
      all_goals
        try have hl2 : 300 ≤ k := by omega
        go_upto_region 7 with fail
        have hs := hs'.out
        clear hs' hgo
        generalize opsS (ops2 xs) k = S at *
        have HS := Lib.hid hs
        clear hs
        go_wp2_with fail
        refine HS.out.told.mono ?_
        rintro _ w3 ⟨va, vc, rfl, hrow, hs, _⟩
        have hpB := ob_lt HS.out.set
        have hml := memL_len S 256
        have HR := Lib.hid (And.intro hs hrow)
        clear HS hs hrow
        generalize wr.heap.size = B at *
        generalize hq : (memL S 256).length = ql at *
        have HQ := Lib.hid hq
        clear hq
        go_wp2_with fail
        go_loopg [9] ql (fun gn s9 wr => ∃ i nd : Nat, s9 = .int .i64 i ∧ i ≤ ql ∧ gn = ql - i ∧ wr = w3.drewN nd)
        case atStart => exact ⟨0, 0, rfl, by omega, by omega, rfl⟩
        case round =>
          obtain ⟨i, nd, rfl, hi, rfl, rfl⟩ := hrel
          by_cases hil : i < ql
          · have hxi : (memL S 256)[i]? = some ((memL S 256)[i]'(by rw [HQ.out]; exact hil)) := List.getElem?_eq_getElem _
            generalize ((memL S 256)[i]'(by rw [HQ.out]; exact hil)) = x at hxi
            have hxm := (memL_mem S).1 (List.mem_of_getElem? hxi)
            have hhas : hasS S (x : Int) = true := by
              unfold hasS
              rw [Int.toNat_natCast, hxm.2, show inR (x : Int) = true by unfold inR; simp; omega]; rfl
            obtain ⟨g1, c1, e1, _, _, b1, b2, hc9⟩ := HR.out.2.get hxi
            simp only [Value.slice.injEq, HQ.out, true_and] at e1
            obtain ⟨rfl, rfl⟩ := e1
            have p0 := hc9 0 _ rfl
            rw [Nat.add_zero, Nat.mul_one] at p0
            rw [HQ.out] at b1
            have HC := Lib.hid (fun nq => by
              have := ((HR.out.1.new ((Keep.refl [] w3).drewN nq)).has (x : Int))
              rw [hhas] at this
              exact this)
            have hil' : (i : Int) < (ql : Int) := by omega
            cases i with
            | zero =>
              clear hc9 hhas hxm hxi
              go_wp2_with fail
              go_quiet ((go_at_call 10; exact (HC.out _).mono fun _ _ ⟨g1, g2⟩ => ⟨g1, _, g2⟩))
              go_wp2_with fail
              go_roundg (ql - (0 + 1))
              case measure => omega
              case rel => exact ⟨1, _, rfl, by omega, rfl, rfl⟩
            | succ i =>
              have hyi : (memL S 256)[i]? = some ((memL S 256)[i]'(by rw [HQ.out]; omega)) := List.getElem?_eq_getElem _
              generalize ((memL S 256)[i]'(by rw [HQ.out]; omega)) = y at hyi
              have hyx := memL_lt hyi hxi (by omega)
              obtain ⟨g2, c2, e2, _, _, _, _, hc8⟩ := HR.out.2.get hyi
              simp only [Value.slice.injEq, HQ.out, Option.some.injEq, Addr.mk.injEq, and_true, true_and] at e2
              obtain ⟨rfl, rfl⟩ := e2
              have q0 := hc8 0 _ rfl
              rw [Nat.add_zero, Nat.mul_one] at q0
              have d1 : decide (0 < ((i + 1 : Nat) : Int)) = true := by first | (simp; done) | (simp; omega)
              have d2 : decide ((x : Int) ≤ (y : Int)) = false := by simp; omega
              clear hc9 hc8 hhas hxm hxi hyi
              go_wp2_with fail
              go_quiet ((go_at_call 10; exact (HC.out _).mono fun _ _ ⟨g1, g2⟩ => ⟨g1, _, g2⟩))
              go_wp2_with fail
              go_roundg (ql - (i + 1 + 1))
              case measure => omega
              case rel => exact ⟨i + 1 + 1, _, by go_num, by omega, rfl, rfl⟩
          · obtain rfl : ql = i := by omega
            go_upto_region 13 with fail
            have hs4 := HR.out.1.new ((Keep.refl [] w3).drewN nd)
            have hrow4 := HR.out.2.keep ((Keep.refl [] w3).drewN nd) (by simp)
            clear HR
            generalize w3.drewN nd = w4 at *
            have HR := Lib.hid (And.intro hs4 hrow4)
            clear hs4 hrow4
            go_wp2_with (go_at_call 18; refine (sAll _ _).mono ?_; rintro e w' ⟨rfl, rfl⟩)
            have h4n : Below w4.heap.size w4 ((w4.alloc (.cells #[.int .i64 0] 3)).alloc (.cells #[.pointer (some ⟨p, 0, none⟩)] 25)) := ((Below.refl _ w4).alloc (Nat.le_refl _) _).alloc (by simp) _
            have hg0 : GR ((w4.alloc (.cells #[.int .i64 0] 3)).alloc (.cells #[.pointer (some ⟨p, 0, none⟩)] 25)) w4.heap.size p ((w4.alloc (.cells #[.int .i64 0] 3)).alloc (.cells #[.pointer (some ⟨p, 0, none⟩)] 25)) 0 := by
              have bf := (Boxed.new w4 3 (.int .i64 0)).alloc (.cells #[.pointer (some ⟨p, 0, none⟩)] 25)
              have bn := Boxed.new (w4.alloc (.cells #[.int .i64 0] 3)) 25 (.pointer (some ⟨p, 0, none⟩))
              simp only [World.size_alloc] at bn
              exact ⟨bf, bn, Below.refl _ _⟩
            have hsz5 : ((w4.alloc (.cells #[.int .i64 0] 3)).alloc (.cells #[.pointer (some ⟨p, 0, none⟩)] 25)).heap.size = w4.heap.size + 2 := by simp
            have hs5 := HR.out.1.new (Keep.ofBelow h4n [])
            have hE5 : ItEnv w4.heap.size (w4.heap.size + 1) p S ((w4.alloc (.cells #[.int .i64 0] 3)).alloc (.cells #[.pointer (some ⟨p, 0, none⟩)] 25)) := ⟨ob_lt HR.out.1.set, by have := ob_lt HR.out.1.set; omega, by omega, hg0.bn, hs5.set, hs5.tab⟩
            have hn1 : W1.heap.size ≤ w4.heap.size := HR.out.1.kp.size
            have cnA : ∀ W, Below w4.heap.size ((w4.alloc (.cells #[.int .i64 0] 3)).alloc (.cells #[.pointer (some ⟨p, 0, none⟩)] 25)) W → W.cell? ⟨nb, 0, none⟩ = some (.int .i64 nn) := fun W hb => by
              have hk : Keep [] w4 W := Keep.ofBelow (h4n.trans hb) []
              rw [cell_of_ob ((HR.out.1.kp.trans hk).kp HT.out.2.2.2 (by simp))]; rfl
            clear hs5
            generalize (w4.alloc (.cells #[.int .i64 0] 3)).alloc (.cells #[.pointer (some ⟨p, 0, none⟩)] 25) = w5 at *
            generalize hn0 : w4.heap.size = n0 at *
            have HX := Lib.hid (And.intro h4n (And.intro hn0 cnA))
            clear h4n hn0 cnA
            refine (wpIn_wide (n := 3)).1 ?_
            refine range_skip rfl (by omega) (gf := 21) (lb := #[.pointer (some ⟨n0 + 1, 0, none⟩)]) rfl trivial (enters_of Tryd.func21 (by kernel_rfl) rfl) (e := fun x : Fin 256 => .int .i64 (x.val : Int))
              (iter_stops 2 (by omega) (n0 + 1) n0 p S w5 (by omega) hE5) Kp.trans (Kp.book (by omega) (by omega)) (Below.refl _ _)
              (fun pre W => GR w5 n0 p W pre.length ∧ ∀ j : Nat, j < pre.length → (j : Int) ≠ nn)
              (fun c pre W => c = .exit 4 ∧ ∃ q x, pre = q ++ [x] ∧ GR w5 n0 p W q.length ∧ (q.length : Int) = nn)
              (fun s A B row h hg hr => ⟨h.1.turn (by omega) (by omega) hg hr, h.2⟩)
              (fun c s A B row h hg hr => by
                obtain ⟨hc, q, x, e, h1, h2⟩ := h
                exact ⟨hc, q, x, e, h1.turn (by omega) (by omega) hg hr, h2⟩)
              ⟨hg0, fun j hj => by simp at hj⟩ ?body ?done ?stop
            case body =>
              rintro l pre x W ⟨hG, hN⟩ hlt9
              have cn := HX.out.2.2 W hG.lo
              have cf := hG.bf.cell
              have ff := hG.bf.frozen
              clear hE5 hg0
              by_cases hfn : ((pre.length : Nat) : Int) = nn
              · have HG := Lib.hid (And.intro hG hN)
                subst hfn
                clear hG hN
                gi_wp2
                exact ⟨KeepsFrom.refl _ _, rfl, pre, x, rfl, HG.out.1, rfl⟩
              · have HG := Lib.hid (And.intro hG hN)
                clear hG hN
                gi_wp2
                have hg := HG.out.1.set (pre.length + 1)
                refine ⟨(KeepsOthers.setCell _ _ _).from _, ⟨(Below.refl _ W).setCell (p := ⟨n0, 0, none⟩) (Nat.le_refl _) _, hg.bn.trans HG.out.1.bn.symm⟩, by rw [List.length_append]; exact hg, fun j hj => ?_⟩
                rw [List.length_append] at hj
                simp at hj
                rcases Nat.lt_or_ge j pre.length with h | h
                · exact HG.out.2 j h
                · have : j = pre.length := by omega
                  subst this
                  exact hfn
            case done =>
              rintro D ys W hD hys ⟨hG, hN⟩ hK
              have hlq : ys.length = ql := by rw [← HQ.out, ← hys, valL_len]
              rw [hlq] at hG hN
              clear hE5 hg0 hys hlq
              have hnn : nn < 0 ∨ (ql : Int) ≤ nn := by
                rcases Int.lt_or_le nn 0 with h | h
                · exact .inl h
                · refine .inr ?_
                  rcases Int.lt_or_le nn ql with h2 | h2
                  · exact absurd (show ((nn.toNat : Nat) : Int) = nn by omega) (hN nn.toNat (by omega))
                  · exact h2
              clear hN

              have hkW : Keep [] w4 W := by
                have hb := HX.out.1.trans hG.lo
                rw [← HX.out.2.1] at hb
                exact Keep.ofBelow hb []
              have hW1D : W1.heap.size ≤ D := by omega
              have hsW := HR.out.1.new hkW
              have hrW := HR.out.2.keep hkW (by simp)
              have cn : W.cell? ⟨nb, 0, none⟩ = some (.int .i64 nn) := by rw [cell_of_ob (hsW.kp.kp HT.out.2.2.2 (by simp))]; rfl
              have cf := hG.bf.cell
              have hfb : ob W n0 = _ := hG.bf
              have hnb := hsW.kp.kp HT.out.2.2.2 (by simp)
              have HW := Lib.hid (And.intro hsW hrW)
              clear hG hkW hsW hrW
              go_wp2_with fail
              refine HW.out.1.told.mono ?_
              rw [HQ.out]
              rintro _ w6 ⟨va2, vc2, rfl, hrow2, hs6, hk6⟩
              have hrow1 := HW.out.2.keep hk6 (by simp)
              have hsame := rSame w6 _ _ _ _ _ hrow1 hrow2 (by have := memL_len S 256; omega)
              have HW6 := Lib.hid (And.intro hs6 (And.intro (hk6.kp hK (by simp)) (And.intro (hk6.kp hfb (by simp)) (hk6.kp hnb (by simp)))))
              clear hs6 hrow1 hrow2 hk6 HW hK hfb hnb cn cf
              go_wp2_with fail
              refine hsame.mono ?_
              rintro _ _ ⟨rfl, nd2, rfl⟩
              clear hsame
              have HW7 : Hid (SE W1 (w6.drewN nd2) p S ∧ ob (w6.drewN nd2) D = some (.deferred (some [])) ∧ ob (w6.drewN nd2) n0 = some (.cells #[.int .i64 (ql : Int)] 3 (0, 0)) ∧ ob (w6.drewN nd2) nb = some (.cells #[.int .i64 nn] 3 (0, 0))) := Lib.hid ⟨HW6.out.1.new ((Keep.refl [] _).drewN nd2), HW6.out.2.1, HW6.out.2.2.1, HW6.out.2.2.2⟩
              clear HW6
              generalize w6.drewN nd2 = w7 at *
              have cn : w7.cell? ⟨nb, 0, none⟩ = some (.int .i64 nn) := by rw [cell_of_ob HW7.out.2.2.2]; rfl
              have cf : w7.cell? ⟨n0, 0, none⟩ = some (.int .i64 (ql : Int)) := by rw [cell_of_ob HW7.out.2.2.1]; rfl
              have hlen := HW7.out.1.len
              rw [HQ.out] at hlen
              have HE : Hid ((Instr.takeDeferred D).run Tryd.prog w7 = .ok [] (w7.putObj D (.deferred none)) ∧ Keep [] W0 (w7.putObj D (.deferred none))) := Lib.hid ⟨run_takeDeferred HW7.out.2.1, by
                have hb := belowK_b (n₀ := W1.heap.size) (w := W1) (Nat.le_refl _) w7 D _ (.deferred none) hW1D HW7.out.2.1 rfl rfl
                have hk7 := HW7.out.1.kp
                exact HT.out.2.2.1.trans (Keep.ofBelow (hk7.toBelow.trans hb) [])⟩
              clear HW7
              go_wp2_with fail
              refine hlen.mono ?_
              rintro _ _ ⟨rfl, rfl⟩
              clear hlen

              rcases hnn with hnn | hnn
              · go_wp2_with fail
                refine ⟨by simp, .inl ⟨_, _, rfl, HE.out.1, ?_⟩⟩
                exact ⟨_, results_tmp rfl _ _ _, rfl, HE.out.2⟩
              · by_cases heq : nn = (ql : Int)
                · subst heq
                  have d1 : decide ((ql : Int) < 0) = false := by first | (simp; done) | (simp; omega)
                  go_wp2_with fail
                  refine ⟨by simp, .inl ⟨_, _, rfl, HE.out.1, ?_⟩⟩
                  exact ⟨_, results_tmp rfl _ _ _, rfl, HE.out.2⟩
                · have d1 : decide (nn < 0) = false := by simp; omega
                  have d2 : (0 : Int) ≤ nn := by omega
                  have d3 : (ql : Int) < nn := by omega
                  go_wp2_with fail
                  refine ⟨by simp, .inl ⟨_, _, rfl, HE.out.1, ?_⟩⟩
                  exact ⟨_, results_tmp rfl _ _ _, rfl, HE.out.2⟩
            case stop =>
              rintro D c pre W hD hpre ⟨rfl, q, x, rfl, hG, hqn⟩ hK
              have hlq : q.length < ql := by
                have := hpre.length_le
                rw [valL_len, HQ.out, List.length_append] at this
                simp at this
                omega
              clear hE5 hg0 hpre
              refine wpIn_wide.2 ?_
              have hkW : Keep [] w4 W := by
                have hb := HX.out.1.trans hG.lo
                rw [← HX.out.2.1] at hb
                exact Keep.ofBelow hb []
              have hW1D : W1.heap.size ≤ D := by omega
              have hsW := HR.out.1.new hkW
              have hrW := HR.out.2.keep hkW (by simp)
              have cn : W.cell? ⟨nb, 0, none⟩ = some (.int .i64 nn) := by rw [cell_of_ob (hsW.kp.kp HT.out.2.2.2 (by simp))]; rfl
              have cf := hG.bf.cell
              have hfb : ob W n0 = _ := hG.bf
              have hnb := hsW.kp.kp HT.out.2.2.2 (by simp)
              have HW := Lib.hid (And.intro hsW hrW)
              clear hG hkW hsW hrW
              go_wp2_with fail
              refine HW.out.1.told.mono ?_
              rw [HQ.out]
              rintro _ w6 ⟨va2, vc2, rfl, hrow2, hs6, hk6⟩
              have hrow1 := HW.out.2.keep hk6 (by simp)
              have hsame := rSame w6 _ _ _ _ _ hrow1 hrow2 (by have := memL_len S 256; omega)
              have HW6 := Lib.hid (And.intro hs6 (And.intro (hk6.kp hK (by simp)) (And.intro (hk6.kp hfb (by simp)) (hk6.kp hnb (by simp)))))
              clear hs6 hrow1 hrow2 hk6 HW hK hfb hnb cn cf
              go_wp2_with fail
              refine hsame.mono ?_
              rintro _ _ ⟨rfl, nd2, rfl⟩
              clear hsame
              have HW7 : Hid (SE W1 (w6.drewN nd2) p S ∧ ob (w6.drewN nd2) D = some (.deferred (some [])) ∧ ob (w6.drewN nd2) n0 = some (.cells #[.int .i64 ((q.length : Nat) : Int)] 3 (0, 0)) ∧ ob (w6.drewN nd2) nb = some (.cells #[.int .i64 nn] 3 (0, 0))) := Lib.hid ⟨HW6.out.1.new ((Keep.refl [] _).drewN nd2), HW6.out.2.1, HW6.out.2.2.1, HW6.out.2.2.2⟩
              clear HW6
              generalize w6.drewN nd2 = w7 at *
              have cn : w7.cell? ⟨nb, 0, none⟩ = some (.int .i64 nn) := by rw [cell_of_ob HW7.out.2.2.2]; rfl
              have cf : w7.cell? ⟨n0, 0, none⟩ = some (.int .i64 ((q.length : Nat) : Int)) := by rw [cell_of_ob HW7.out.2.2.1]; rfl
              have hlen := HW7.out.1.len
              rw [HQ.out] at hlen
              have HE : Hid ((Instr.takeDeferred D).run Tryd.prog w7 = .ok [] (w7.putObj D (.deferred none)) ∧ Keep [] W0 (w7.putObj D (.deferred none))) := Lib.hid ⟨run_takeDeferred HW7.out.2.1, by
                have hb := belowK_b (n₀ := W1.heap.size) (w := W1) (Nat.le_refl _) w7 D _ (.deferred none) hW1D HW7.out.2.1 rfl rfl
                have hk7 := HW7.out.1.kp
                exact HT.out.2.2.1.trans (Keep.ofBelow (hk7.toBelow.trans hb) [])⟩
              clear HW7
              go_wp2_with fail
              refine hlen.mono ?_
              rintro _ _ ⟨rfl, rfl⟩
              clear hlen

              have d1 : decide (nn < 0) = false := by simp; omega
              have d2 : (0 : Int) ≤ nn := by omega
              have d3 : nn < (ql : Int) := by omega
              generalize q.length = ff at *
              subst hqn
              go_wp2_with fail
              refine ⟨by simp, .inl ⟨_, _, rfl, HE.out.1, ?_⟩⟩
              exact ⟨_, results_tmp rfl _ _ _, rfl, HE.out.2⟩
end Go.Proofs.YtfihnnijcaapkaaDoor
