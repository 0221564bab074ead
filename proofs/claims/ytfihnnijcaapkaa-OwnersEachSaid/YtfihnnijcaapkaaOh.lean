import Derived.Test.YtfihnnijcaapkaaOg

namespace Go.Proofs.Ytfihnnijcaapkaa
open Go.RowKit
set_option linter.unusedSimpArgs false
set_option linter.unusedVariables false
attribute [local go_sem] ob_alloc ob_drew ob_drewN ob_setCell ob_setBlock objSet_cells obMap_map obClock_map isMapI_map keyI_mk findI_nil findI_cons lookRes_some lookRes_none lookRes_some' lookRes_none' setBlock_alloc mapPut

/-! ### OwnersSum -/
def own (L : Nat → Int) : Nat → Int
  | 0 => 0
  | k + 1 => own L k + if 0 ≤ L k then 1 else 0
theorem own_succ (L : Nat → Int) (k : Nat) : own L (k + 1) = own L k + if 0 ≤ L k then 1 else 0 := rfl
theorem own_bd (L : Nat → Int) : ∀ k, 0 ≤ own L k ∧ own L k ≤ k
  | 0 => by simp [own]
  | k + 1 => by have := own_bd L k; rw [own_succ]; split <;> omega
def tot9 (L : Nat → Int) (n : Nat) : Nat → Int
  | 0 => 0
  | m + 1 => tot9 L n m + ocnt L m n
theorem tot9_succ (L : Nat → Int) (n m : Nat) : tot9 L n (m + 1) = tot9 L n m + ocnt L m n := rfl
theorem tot9_bd (L : Nat → Int) (n : Nat) : ∀ m, 0 ≤ tot9 L n m ∧ tot9 L n m ≤ n * m
  | 0 => by simp [tot9]
  | m + 1 => by have := tot9_bd L n m; have := ocnt_bd L m n; rw [tot9_succ, Int.natCast_add, Int.mul_add]; omega
theorem tot9_step (L : Nat → Int) (k : Nat) (h : -1 ≤ L k ∧ L k ≤ 8) : tot9 L (k + 1) 9 = tot9 L k 9 + if 0 ≤ L k then 1 else 0 := by
  have hc : L k = -1 ∨ L k = 0 ∨ L k = 1 ∨ L k = 2 ∨ L k = 3 ∨ L k = 4 ∨ L k = 5 ∨ L k = 6 ∨ L k = 7 ∨ L k = 8 := by omega
  simp only [tot9, ocnt_succ]
  rcases hc with h | h | h | h | h | h | h | h | h | h <;> rw [h] <;> simp <;> omega
theorem tot9_own (L : Nat → Int) : ∀ n, (∀ i, i < n → -1 ≤ L i ∧ L i ≤ 8) → tot9 L n 9 = own L n
  | 0, _ => by simp [tot9, own, ocnt]
  | n + 1, h => by rw [tot9_step L n (h n (by omega)), tot9_own L n (fun i hi => h i (by omega)), own_succ]

/-- the owners, and blocks of the walk's own -/
structure CO (W0 : World) (o g n : Nat) (kn : List (Nat × Obj)) (w : World) (L M H : Nat → Int) : Prop where
  oo : OAt w o g n L M H
  oi : OInv n L M H
  ow : ∀ x, x ∈ kn → ob w x.1 = some x.2 ∧ x.1 ≠ o ∧ x.1 ≠ g ∧ W0.heap.size ≤ x.1
  kp : Keep [] W0 w
  l0 : W0.heap.size ≤ o ∧ W0.heap.size ≤ g
section
variable {W0 : World} {o g n : Nat} {kn : List (Nat × Obj)} {w : World} {L M H : Nat → Int}
theorem CO.new (h : CO W0 o g n kn w L M H) {w' : World} (hk : Keep [] w w') : CO W0 o g n kn w' L M H := ⟨h.oo.keep hk (by simp) (by simp), h.oi, fun x hx => ⟨hk.kp (h.ow x hx).1 (by simp), (h.ow x hx).2⟩, h.kp.trans hk, h.l0⟩
theorem CO.drewN (h : CO W0 o g n kn w L M H) (k : Nat) : CO W0 o g n kn (w.drewN k) L M H := h.new ((Keep.refl _ _).drewN k)
theorem CO.byO (h : CO W0 o g n kn w L M H) {w' : World} {L' M' H' : Nat → Int} (hO : OAt w' o g n L' M' H') (hI : OInv n L' M' H') (hk : Keep [o, g] w w') : CO W0 o g n kn w' L' M' H' :=
  ⟨hO, hI, fun x hx => ⟨hk.kp (h.ow x hx).1 (by simp; exact ⟨(h.ow x hx).2.1, (h.ow x hx).2.2.1⟩), (h.ow x hx).2⟩, h.kp.andThen hk (by simp; exact h.l0), h.l0⟩
theorem CO.give (h : CO W0 o g n kn w L M H) (f m x : Int) : Calls Try.prog 28 #[.pointer (some ⟨o, 0, none⟩), .int .i64 f, .int .i64 m, .int .i64 x] w fun e w' => e = .returned (.int .i64 (giveR n L M f m x)) ∧ CO W0 o g n kn w' (giveL n L M f m x) M (giveH n L M H f m x) :=
  (oGive w o g n L M H h.oo h.oi f m x).mono fun _ _ ⟨h1, h2, h3⟩ => ⟨h1, h.byO h2 (h.oi.give f m x) h3⟩
theorem CO.take (h : CO W0 o g n kn w L M H) (f m x : Int) : Calls Try.prog 32 #[.pointer (some ⟨o, 0, none⟩), .int .i64 f, .int .i64 m, .int .i64 x] w fun e w' => e = .returned (.int .i64 (takeR n L f m x)) ∧ CO W0 o g n kn w' (takeL n L f m x) M (takeH n L H f m x) :=
  (oTake w o g n L M H h.oo h.oi f m x).mono fun _ _ ⟨h1, h2, h3⟩ => ⟨h1, h.byO h2 (h.oi.take f m x) h3⟩
theorem CO.quota (h : CO W0 o g n kn w L M H) (x t : Int) : Calls Try.prog 27 #[.pointer (some ⟨o, 0, none⟩), .int .i64 x, .int .i64 t] w fun e w' => e = .returned (.int .i64 (quotaR n L x t)) ∧ CO W0 o g n kn w' L (quotaM n L M x t) H :=
  (oQuota w o g n L M H h.oo h.oi x t).mono fun _ _ ⟨h1, h2, h3⟩ => ⟨h1, h.byO h2 (h.oi.quota x t) (h3.mono (by simp))⟩
theorem CO.of (h : CO W0 o g n kn w L M H) (f : Int) : Calls Try.prog 29 #[.pointer (some ⟨o, 0, none⟩), .int .i64 f] w fun e w' => e = .returned (.int .i64 (ofR n L f)) ∧ w = w' := oOf w o g n L M H h.oo h.oi.n2 f
theorem CO.count (h : CO W0 o g n kn w L M H) (x : Int) : Calls Try.prog 36 #[.pointer (some ⟨o, 0, none⟩), .int .i64 x] w fun e w' => e = .returned (.int .i64 (countR n L x)) ∧ w = w' := oCount w o g n L M H h.oo h.oi x
theorem CO.ob (h : CO W0 o g n kn w L M H) {b : Nat} {o' : Obj} (hb : (b, o') ∈ kn) : Go.Proofs.Ytfihnnijcaapkaa.ob w b = some o' := (h.ow _ hb).1
theorem CO.drop (h : CO W0 o g n kn w L M H) {kn' : List (Nat × Obj)} (hkn : ∀ x, x ∈ kn' → x ∈ kn) : CO W0 o g n kn' w L M H := ⟨h.oo, h.oi, fun x hx => h.ow x (hkn x hx), h.kp, h.l0⟩
theorem CO.alloc (h : CO W0 o g n kn w L M H) (cs : Array Value) (t : TypeId) : CO W0 o g n ((w.heap.size, .cells cs t (0, 0)) :: kn) (w.alloc (.cells cs t)) L M H := by
  have h1 := ob_lt h.oo.ho
  have h2 := ob_lt h.oo.hg
  have h3 := h.new ((Keep.refl [] w).alloc (.cells cs t))
  exact ⟨h3.oo, h3.oi, fun x hx => by
    rcases List.mem_cons.1 hx with rfl | hx
    · exact ⟨al_new _ _ rfl, by show w.heap.size ≠ o; omega, by show w.heap.size ≠ g; omega, h.kp.size⟩
    · exact h3.ow x hx, h3.kp, h.l0⟩
/-- a block of the walk's own turns -/
theorem CO.turn (h : CO W0 o g n kn w L M H) {w' : World} {b : Nat} {o1 o' : Obj} {kn' : List (Nat × Obj)} (hb : (b, o1) ∈ kn) (hk : Keep [b] w w') (ho : Go.Proofs.Ytfihnnijcaapkaa.ob w' b = some o') (hkn : ∀ x, x ∈ kn' → x.1 = b ∧ x.2 = o' ∨ x ∈ kn ∧ x.1 ≠ b) : CO W0 o g n kn' w' L M H := by
  obtain ⟨_, h1, h2, h3⟩ := h.ow _ hb
  refine ⟨h.oo.keep hk (by simp; exact fun e => h1 e.symm) (by simp; exact fun e => h2 e.symm), h.oi, fun x hx => ?_, h.kp.andThen hk (by simp; exact h3), h.l0⟩
  rcases hkn x hx with ⟨e1, e2⟩ | ⟨h4, h5⟩
  · rw [e1, e2]; exact ⟨ho, h1, h2, h3⟩
  · exact ⟨hk.kp (h.ow x h4).1 (by simp; exact h5), (h.ow x h4).2⟩
theorem CO.cells {b : Nat} {d f m x : Int} (h : CO W0 o g n kn w L M H) (hb : (b, .cells #[.int .i64 d, .int .i64 f, .int .i64 m, .int .i64 x] 60 (0, 0)) ∈ kn) :
    w.cell? ⟨b, 0, none⟩ = some (.int .i64 d) ∧ w.cell? ⟨b, 1, none⟩ = some (.int .i64 f) ∧ w.cell? ⟨b, 2, none⟩ = some (.int .i64 m) ∧ w.cell? ⟨b, 3, none⟩ = some (.int .i64 x) := by
  have := cell_of_ob (h.ob hb)
  exact ⟨this 0, this 1, this 2, this 3⟩
end

set_option maxRecDepth 100000 in
set_option maxHeartbeats 2000000 in
theorem sum05 (W0 : World) (v0 : Value) (xs : List (List Value)) (hv : RdA W0 4 v0 xs) (hx : ∀ c ∈ xs, GCells W0 [.int .i64, .int .i64, .int .i64, .int .i64] c) :
    Calls Try.prog 9 #[v0] W0 fun o w' => o = .returned (.bool true) ∧ Keep [] W0 w' := by
  obtain ⟨a0, cap0, rfl, hc1, hc2⟩ := hv.len
  unfold maxLen at hc2
  go_enter Try.func9, Try.ntmps9
  go_wp2_with fail
  refine (awake05 W0).mono ?_
  rintro _ w1 ⟨rfl, hk1⟩
  go_wp2_with fail
  refine (oNew_ok 24 (by omega) (by omega) w1).mono ?_
  rintro _ w2 ⟨rfl, hO2, hk2, hs2⟩
  have hI := OInv.start (n := 24) (by omega) (by omega)
  have hC0 : CO W0 (w1.heap.size + 1) w1.heap.size 24 [] w2 _ _ _ := ⟨hO2, hI, by simp, hk1.trans hk2, by have := hk1.size; omega⟩
  generalize w1.heap.size + 1 = o at *
  generalize w1.heap.size = g at *
  clear hO2 hI hk1 hk2 hs2
  by_cases h100 : xs.length ≤ 100
  · have hA0 : CO W0 o g 24 [(w2.heap.size, .cells (blk (vI (setL (fun _ => 0) 0 0 256)) 9) 39 (0, 0))] (w2.alloc (.cells #[.int .i64 0, .int .i64 0, .int .i64 0, .int .i64 0, .int .i64 0, .int .i64 0, .int .i64 0, .int .i64 0, .int .i64 0] 39)) _ _ _ := hC0.alloc #[.int .i64 0, .int .i64 0, .int .i64 0, .int .i64 0, .int .i64 0, .int .i64 0, .int .i64 0, .int .i64 0, .int .i64 0] 39
    have HA := Lib.hid hA0
    clear hA0 hC0
    go_wp2_with fail
    have hA0 := HA.out
    clear HA
    generalize w2.alloc (.cells #[.int .i64 0, .int .i64 0, .int .i64 0, .int .i64 0, .int .i64 0, .int .i64 0, .int .i64 0, .int .i64 0, .int .i64 0] 39) = w3 at *
    generalize w2.heap.size = bm at *
    go_loopg [7] 9 (fun gn i wr => ∃ j : Nat, i = .int .i64 j ∧ j ≤ 9 ∧ gn = 9 - j ∧ CO W0 o g 24 [(bm, .cells (blk (vI (setL (fun _ => 0) 0 j 256)) 9) 39 (0, 0))] wr (fun _ => -1) (fun _ => 256) (fun _ => 0))
    case atStart => exact ⟨0, rfl, by omega, by omega, hA0⟩
    case round =>
      clear hA0
      obtain ⟨j, rfl, hj, rfl, hA⟩ := hrel
      by_cases hlt : j < 9
      · have om := hA.ob (.head _)
        have cm : wr.cell? ⟨bm, j, none⟩ = some (vI (setL (fun _ => 0) 0 j 256) j) := blk_cell om hlt
        have fm := free_of_ob om
        have H2 : Hid (CO W0 o g 24 [(bm, .cells (blk (vI (setL (fun _ => 0) 0 (j + 1) 256)) 9) 39 (0, 0))] (wr.setCell ⟨bm, j, none⟩ (.int .i64 256)) (fun _ => -1) (fun _ => 256) (fun _ => 0)) :=
          Lib.hid (hA.turn (b := bm) (.head _) ((Keep.refl _ _).setCell (.inl (by simp)) _ _) (o' := .cells (blk (vI (setL (fun _ => 0) 0 (j + 1) 256)) 9) 39 (0, 0)) (by
            have e := setL_step (fun _ => 0) 0 j 256
            rw [Nat.zero_add] at e
            rw [blk_store om, vI_upd, e]) (by simp))
        clear hA om
        go_wp2_with fail
        go_roundg (9 - (j + 1))
        case measure => omega
        case rel => exact ⟨j + 1, by go_num, by omega, rfl, H2.out⟩
      · obtain rfl : j = 9 := by omega
        have hB0 : CO W0 o g 24 [(bm, .cells (blk (vI (fun _ => 256)) 9) 39 (0, 0))] wr (fun _ => -1) (fun _ => 256) (fun _ => 0) := by
          rw [blk_congr (f := vI fun _ => 256) (g := vI (setL (fun _ => 0) 0 9 256)) (fun i hi => by show Value.int .i64 256 = .int .i64 (setL _ 0 9 256 i); unfold setL; rw [if_pos (by omega)])]
          exact hA
        clear hA
        go_wp2_with fail
        go_loopg [8] xs.length (fun gn i wr => ∃ (k : Nat) (L M H : Nat → Int), i = .int .i64 k ∧ k ≤ xs.length ∧ gn = xs.length - k ∧ CO W0 o g 24 [(bm, .cells (blk (vI (M)) 9) 39 (0, 0))] wr L M H)
        case atStart => exact ⟨0, _, _, _, rfl, by omega, by omega, hB0⟩
        case round =>
          clear hB0
          obtain ⟨k, L, M, H, rfl, hkn, rfl, hC⟩ := hrel
          by_cases hlt : k < xs.length
          · obtain ⟨b, off, cap', hveq, hbl, hcells⟩ := (hv.keep hC.kp (by simp)).2 (by omega)
            simp only [Value.slice.injEq, true_and] at hveq
            obtain ⟨rfl, rfl⟩ := hveq
            have hxk : xs[k]? = some xs[k] := List.getElem?_eq_getElem hlt
            obtain ⟨hc3, hrange⟩ := hcells k _ hxk
            obtain ⟨_, _, hxe, ⟨d, rfl, wd⟩, _, _, rfl, ⟨f, rfl, wq⟩, _, _, rfl, ⟨m, rfl, wa⟩, _, _, rfl, ⟨x, rfl, wk⟩, rfl⟩ := hx _ (List.getElem_mem hlt)
            rw [hxe] at hrange
            have l0 := hrange 0 _ rfl
            have l1 := hrange 1 _ rfl
            have l2 := hrange 2 _ rfl
            have l3 := hrange 3 _ rfl
            rw [Nat.add_zero] at l0
            clear hv hx hcells hxk hrange hc3 hxe wd wq wa wk
            generalize xs.length = l at *
            have hD := hC.alloc #[.int .i64 d, .int .i64 f, .int .i64 m, .int .i64 x] 60
            have nbm : bm ≠ wr.heap.size := by have := ob_lt (hC.ob (.head _)); omega
            have HD := Lib.hid hD
            clear hC hD
            go_upto_if 54 with fail
            have hD := HD.out
            clear HD
            generalize wr.heap.size = bo at *
            generalize wr.alloc (.cells #[.int .i64 d, .int .i64 f, .int .i64 m, .int .i64 x] 60) = w4 at *
            obtain ⟨e0, e1, e2, e3⟩ := hD.cells (.head _)
            go_cut [9] from 42 to 113 (fun s9 wx => s9 = .pointer (some ⟨bo, 0, none⟩) ∧ ∃ L M H, CO W0 o g 24 [(bm, .cells (blk (vI (M)) 9) 39 (0, 0))] wx L M H)
            case first =>
              clear l0 l1 l2 l3
              by_cases d2 : d = 2
              · subst d2
                go_wp2_with fail
                refine (hD.take f m x).mono ?_
                rintro _ w5 ⟨rfl, hE⟩
                have HE := Lib.hid hE
                clear hD hE
                go_wp2_with fail
                go_meet
                exact ⟨rfl, _, _, _, HE.out.drop (by simp)⟩
              · have d2' : (d == 2) = false := by simpa using d2
                by_cases d3 : d = 3
                · subst d3
                  clear d2 d2'
                  go_wp2_with fail
                  refine (hD.quota x m).mono ?_
                  rintro _ w5 ⟨rfl, hE⟩
                  by_cases hq : quotaR 24 L x m = 0
                  · obtain ⟨k', rfl, hk', hm0, hm1, hm2⟩ := quotaR_ok hq
                    obtain ⟨e0, e1, e2, e3⟩ := hE.cells (.head _)
                    have om := hE.ob (b := bm) (.tail _ (.head _))
                    have cm : w5.cell? ⟨bm, k', none⟩ = some (.int .i64 (M k')) := blk_cell om hk'
                    have fm := free_of_ob om
                    have eM : quotaM 24 L M k' m = updW M k' m := by unfold quotaM; rw [if_pos hq]; rfl
                    have H2 : Hid (CO W0 o g 24 [(bm, .cells (blk (vI (quotaM 24 L M k' m)) 9) 39 (0, 0))] (w5.setCell ⟨bm, k', none⟩ (.int .i64 m)) L (quotaM 24 L M k' m) H) :=
                      Lib.hid (hE.turn (b := bm) (.tail _ (.head _)) ((Keep.refl _ _).setCell (.inl (by simp)) _ _) (o' := .cells (blk (vI (quotaM 24 L M k' m)) 9) 39 (0, 0)) (by rw [eM, blk_store om, vI_upd]) (by simp))
                    rw [hq]
                    have hk8 : k' ≤ 8 := by omega
                    clear hD hE om eM hq hm2
                    go_wp2_with fail
                    go_meet
                    exact ⟨rfl, _, _, _, H2.out⟩
                  · have hq2 : (quotaR 24 L x m == 0) = false := by simpa using hq
                    have eM : quotaM 24 L M x m = M := by unfold quotaM; rw [if_neg hq]
                    rw [eM] at hE
                    have HE := Lib.hid hE
                    generalize quotaR 24 L x m = y at *
                    clear hD hE eM hq
                    go_wp2_with fail
                    go_meet
                    exact ⟨rfl, _, _, _, HE.out.drop (by simp)⟩
                · have d3' : (d == 3) = false := by simpa using d3
                  clear d2 d3
                  go_wp2_with fail
                  refine (hD.give f m x).mono ?_
                  rintro _ w5 ⟨rfl, hE⟩
                  have HE := Lib.hid hE
                  clear hD hE
                  go_wp2_with fail
                  go_meet
                  exact ⟨rfl, _, _, _, HE.out.drop (by simp)⟩
            case rest =>
              clear hD l0 l1 l2 l3 e0 e1 e2 e3
              obtain ⟨rfl, L1, M1, H1, hE⟩ := hcut
              go_wp2_with fail
              go_loopg [10, 11] 24 (fun gn c i wq => ∃ j : Nat, i = .int .i64 j ∧ j ≤ 24 ∧ gn = 24 - j ∧ c = .int .i64 (own L1 j) ∧ wc = wq)
              case atStart => exact ⟨0, rfl, by omega, by omega, rfl, rfl⟩
              case round =>
                obtain ⟨j, rfl, hj, rfl, rfl, rfl⟩ := hrel
                have hb := own_bd L1 j
                by_cases hlt2 : j < 24
                · have hof := hE.of j
                  rw [show ofR 24 L1 (j : Int) = L1 j by unfold ofR; rw [if_pos (by omega)]; rfl] at hof
                  have HC : Hid (own L1 (j + 1) = own L1 j + if 0 ≤ L1 j then 1 else 0) := rfl
                  generalize L1 j = y at *
                  generalize own L1 j = z at *
                  by_cases hy : 0 ≤ y
                  · go_wp2_with fail
                    refine hof.mono ?_
                    rintro _ w6 ⟨rfl, rfl⟩
                    clear hof
                    go_wp2_with fail
                    go_roundg (24 - (j + 1))
                    case measure => omega
                    case rel => exact ⟨j + 1, by go_num, by omega, rfl, by rw [HC.out, if_pos hy], rfl⟩
                  · have hy2 : decide (0 ≤ y) = false := by simpa using hy
                    go_wp2_with fail
                    refine hof.mono ?_
                    rintro _ w6 ⟨rfl, rfl⟩
                    clear hof
                    go_wp2_with fail
                    go_roundg (24 - (j + 1))
                    case measure => omega
                    case rel => exact ⟨j + 1, by go_num, by omega, rfl, by rw [HC.out, if_neg (by omega)]; simp, rfl⟩
                · obtain rfl : j = 24 := by omega
                  have HT := Lib.hid (tot9_own L1 24 hE.oi.lo)
                  have om := hE.ob (.head _)
                  go_wp2_with fail
                  go_loopg [12, 13] 9 (fun gn c i wq => ∃ j : Nat, i = .int .i64 j ∧ j ≤ 9 ∧ gn = 9 - j ∧ c = .int .i64 (tot9 L1 24 j) ∧ wc = wq)
                  case atStart => exact ⟨0, rfl, by omega, by omega, rfl, rfl⟩
                  case round =>
                    obtain ⟨q, rfl, hq, rfl, rfl, rfl⟩ := hrel
                    have hb2 := tot9_bd L1 24 q
                    have hb3 := ocnt_bd L1 q 24
                    by_cases hlt3 : q < 9
                    · have hct := hE.count q
                      have hm9 := hE.oi.hm q hlt3
                      rw [show countR 24 L1 (q : Int) = ocnt L1 q 24 by unfold countR; rw [if_pos (by unfold mayB; simp; omega)]] at hct
                      have cm : wc.cell? ⟨bm, q, none⟩ = some (.int .i64 (M1 q)) := blk_cell om hlt3
                      have HC : Hid (tot9 L1 24 (q + 1) = tot9 L1 24 q + ocnt L1 q 24) := rfl
                      generalize ocnt L1 q 24 = y at *
                      generalize tot9 L1 24 q = z at *
                      generalize M1 q = u at *
                      go_wp2_with fail
                      refine hct.mono ?_
                      rintro _ w6 ⟨rfl, rfl⟩
                      clear hct om
                      go_wp2_with fail
                      go_roundg (9 - (q + 1))
                      case measure => omega
                      case rel => exact ⟨q + 1, by go_num, by omega, rfl, by rw [HC.out], rfl⟩
                    · obtain rfl : q = 9 := by omega
                      rw [HT.out]
                      have HE := Lib.hid hE
                      clear hE om
                      go_wp2_with fail
                      go_roundg (l - (k + 1))
                      case measure => omega
                      case rel => exact ⟨k + 1, _, _, _, by go_num, by omega, rfl, HE.out⟩
          · generalize xs.length = l at *
            have hkE := hC.kp
            clear hv hx hC
            go_wp2
            go_ret
            exact ⟨rfl, hkE⟩
  · have hkE := hC0.kp
    have hgt : 100 < xs.length := by omega
    generalize xs.length = l at *
    clear hv hx hC0 h100
    go_wp2
    go_ret
    exact ⟨rfl, hkE⟩
end Go.Proofs.Ytfihnnijcaapkaa
