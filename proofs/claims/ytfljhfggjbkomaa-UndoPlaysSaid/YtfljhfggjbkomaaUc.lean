import Derived.Test.YtfljhfggjbkomaaUb
import Derived.Deep.RegionHeld3
namespace Go.Proofs.Ytfljhfggjbkomaa
open Go.RowKit
set_option linter.unusedSimpArgs false
set_option linter.unusedVariables false
attribute [local go_sem] ob_alloc ob_drew ob_drewN ob_setCell ob_setBlock objSet_cells obMap_map obClock_map isMapI_map keyI_mk findI_nil findI_cons lookRes_some lookRes_none lookRes_some' lookRes_none' setBlock_alloc mapPut

/-! ### Do -/
theorem BDk.swap {W0 w : World} {bo : Nat} {kn kn' : List (Nat × Obj)} {C : Nat → Int} {E : List (Int × Int)} (h : BDk W0 w bo kn C E) (hs : ∀ x ∈ kn', x ∈ kn) : BDk W0 w bo kn' C E := h.dropk hs
set_option maxRecDepth 100000 in
set_option maxHeartbeats 400000 in
theorem cBack_ok (w : World) (x6 x3 : Nat) (h : w.cell? ⟨x6, 0, none⟩ = some (.int .i64 0)) :
    CallsD Try.prog 64 #[.pointer (some ⟨x6, 0, none⟩), .pointer (some ⟨x3, 0, none⟩)] .returning w fun e u' w' => u' = .returning ∧ e = .returned (.tuple #[]) ∧ w' = w := by
  go_enter_d Try.func64, Try.ntmps64
  go_wp2
  go_end0
  exact ⟨rfl, rfl⟩
theorem cBack_no {W0 w : World} {bo lg : Nat} {kn : List (Nat × Obj)} {C : Nat → Int} {E : List (Int × Int)} {L : List Cl} (x6 x3 : Nat) (r : Int) (hr : r ≠ 0) (h : w.cell? ⟨x6, 0, none⟩ = some (.int .i64 r)) (h3 : w.cell? ⟨x3, 0, none⟩ = some (.pointer (some ⟨lg, 0, none⟩)))
    (hU : UL W0 w bo lg kn C E L) (hL : L.length ≤ 1000) (hE : E.length ≤ 90000) :
    CallsD Try.prog 64 #[.pointer (some ⟨x6, 0, none⟩), .pointer (some ⟨x3, 0, none⟩)] .returning w fun e u' w' => u' = .returning ∧ e = .returned (.tuple #[]) ∧ UL W0 w' bo lg kn (rollC C L) (E ++ rollE L) [] := by
  have hne : (r != 0) = true := by simpa using hr
  have HU := Lib.hid hU
  clear hU hr
  go_enter_d Try.func64, Try.ntmps64
  go_wp2_with fail
  refine (uRoll HU.out hL hE).mono ?_
  rintro _ w2 ⟨rfl, hU2⟩
  have H2 := Lib.hid hU2
  clear hU2 h h3
  go_wp2
  go_end0
  exact ⟨rfl, H2.out⟩
theorem UL.obk {W0 w : World} {bo lg : Nat} {kn : List (Nat × Obj)} {C : Nat → Int} {E : List (Int × Int)} {L : List Cl} (h : UL W0 w bo lg kn C E L) {b : Nat} {o : Obj} (hb : (b, o) ∈ kn) : ob w b = some o := by
  obtain ⟨v, rk, h1, h2, h3, h4⟩ := h.ex
  exact h2.obk (mem_lg hb)
theorem UL.bdk {W0 w : World} {bo lg : Nat} {kn : List (Nat × Obj)} {C : Nat → Int} {E : List (Int × Int)} {L : List Cl} (h : UL W0 w bo lg kn C E L) : BDk W0 w bo kn C E := by
  obtain ⟨v, rk, h1, h2, h3, h4⟩ := h.ex
  exact h2.dropk (fun x hx => mem_lg hx)
theorem UL.dropNil {W0 w : World} {bo lg : Nat} {kn kn' : List (Nat × Obj)} {C : Nat → Int} {E : List (Int × Int)} (h : UL W0 w bo lg kn C E []) (hs : ∀ x ∈ kn', x ∈ kn) : UL W0 w bo lg kn' C E [] := by
  obtain ⟨v, rk, h1, h2, h3, h4⟩ := h.ex
  refine ⟨⟨v, rk, h1, h2.dropk (fun x hx => ?_), fun x hx => h3 x ?_, fun x hx y hy => h4 x hx y (hs y hy)⟩, h.l0, by simp⟩
  · simp only [List.mem_cons, List.mem_append] at hx ⊢
    rcases hx with hx | hx | hx
    · exact .inl hx
    · exact .inr (.inl hx)
    · exact .inr (.inr (hs x hx))
  · simp only [List.mem_append] at hx ⊢
    exact hx.imp id (hs x)
/-- beside more that is known -/
theorem UL.more {W0 w : World} {bo lg : Nat} {kn : List (Nat × Obj)} {C' : Nat → Int} {E' : List (Int × Int)} {L : List Cl} {w0 : World} {v : Value} {rk : List (Nat × Obj)} (hk : RowK W0.heap.size v (L.map (·.clo)) rk) (h3 : ∀ x ∈ rk ++ kn, x.1 ≠ lg) (h4 : ∀ x ∈ rk, ∀ y ∈ kn, y.1 ≠ x.1) (hl : W0.heap.size ≤ lg) (hg : ∀ c ∈ L, c.good W0 bo kn)
    (ks : List (Nat × Obj)) (hn : ∀ x ∈ ks, w0.heap.size ≤ x.1) (hlt : ∀ x ∈ (lg, lgO v) :: (rk ++ kn), x.1 < w0.heap.size) (hB : BDk W0 w bo (ks ++ (lg, lgO v) :: (rk ++ kn)) C' E') : UL W0 w bo lg (ks ++ kn) C' E' L := by
  have hl2 := hlt (lg, lgO v) (.head _)
  simp only at hl2
  refine ⟨⟨v, rk, hk, hB.dropk (fun x hx => ?_), fun x hx => ?_, fun x hx y hy => ?_⟩, hl, fun c hc => ⟨(hg c hc).1.mono (fun x hx => List.mem_append_right _ hx), (hg c hc).2⟩⟩
  · simp only [List.mem_cons, List.mem_append] at hx ⊢
    rcases hx with hx | hx | hx | hx
    · exact .inr (.inl hx)
    · exact .inr (.inr (.inl hx))
    · exact .inl hx
    · exact .inr (.inr (.inr hx))
  · simp only [List.mem_append] at hx
    rcases hx with hx | hx | hx
    · exact h3 x (List.mem_append_left _ hx)
    · have := hn x hx; omega
    · exact h3 x (List.mem_append_right _ hx)
  · simp only [List.mem_append] at hy
    rcases hy with hy | hy
    · have g1 := hn y hy
      have g2 := hlt x (List.mem_cons_of_mem _ (List.mem_append_left _ hx))
      omega
    · exact h4 x hx y hy
set_option maxRecDepth 100000 in
set_option maxHeartbeats 2000000 in
theorem uDo_no {W0 w : World} {bo lg : Nat} {kn : List (Nat × Obj)} {C : Nat → Int} {E : List (Int × Int)} {L : List Cl} (hU : UL W0 w bo lg kn C E L) {dov back : Value} {r : Int} {fC : (Nat → Int) → (Nat → Int)} {ev : List (Int × Int)}
    (hdo : RunsTo W0 bo kn dov (.int .i64 r) fC ev) (hr : r ≠ 0) (hev : ev.length ≤ 1) (hL : L.length ≤ 1000) (hE : E.length ≤ 80000) :
    Calls Try.prog 15 #[.pointer (some ⟨lg, 0, none⟩), dov, back] w fun e w' => e = .returned (.int .i64 r) ∧ UL W0 w' bo lg kn (rollC (fC C) L) (E ++ ev ++ rollE L) [] := by
  obtain ⟨v, rk, h1, h2, h3, h4⟩ := hU.ex
  obtain ⟨N, caps, rfl, hN, hrun⟩ := hdo
  have hmf : ∀ (fn : Fn) (first cap : Array Value) (w : World), (Instr.makeFunc fn first cap).run Try.prog w = .ok (.func fn first cap) w := fun _ _ _ _ => rfl
  have hA := (h2.alloc #[.pointer (some ⟨lg, 0, none⟩)] 24).alloc #[.int .i64 0] 37
  have hs : (w.alloc (.cells #[.pointer (some ⟨lg, 0, none⟩)] 24)).heap.size = w.heap.size + 1 := by simp
  rw [hs] at hA
  have hx3 : W0.heap.size ≤ w.heap.size := h2.kp.size
  have hlt : ∀ x ∈ (lg, lgO v) :: (rk ++ kn), x.1 < w.heap.size := fun x hx => ob_lt (h2.ow x hx).1
  have HH := Lib.hid (And.intro hU (And.intro h1 (And.intro h3 (And.intro h4 (And.intro hA (And.intro hx3 (And.intro hlt hrun)))))))
  clear hU h1 h2 h3 h4 hA hs hx3 hlt hrun
  go_enter_defers Try.func15, Try.ntmps15
  go_wp2_with fail
  have hcall := HH.out.2.2.2.2.2.2.2 _ _ _ _ (fun x hx => List.mem_cons_of_mem _ (List.mem_cons_of_mem _ (mem_lg hx))) HH.out.2.2.2.2.1 (by omega)
  refine hcall.mono ?_
  rintro _ w2 ⟨rfl, hB2⟩
  obtain ⟨hU, h1, h3, h4, hA, hx3, hlt, -⟩ := HH.out
  have hks : ∀ x ∈ ((w.heap.size, Obj.cells #[Value.pointer (some ⟨lg, 0, none⟩)] 24 (0, 0)) :: (lg, lgO v) :: (rk ++ kn)), x ∈ ((w.heap.size + 1, Obj.cells #[Value.int .i64 0] 37 (0, 0)) :: (w.heap.size, Obj.cells #[Value.pointer (some ⟨lg, 0, none⟩)] 24 (0, 0)) :: (lg, lgO v) :: (rk ++ kn)) ∧ x.1 ≠ w.heap.size + 1 := fun x hx => ⟨List.mem_cons_of_mem _ hx, by
    rcases List.mem_cons.1 hx with rfl | hx
    · show w.heap.size ≠ w.heap.size + 1; omega
    · have := hlt x hx; omega⟩
  have hC := hB2.set (.head _) 0 (.int .i64 r) hks (by omega)
  have c6 := cell_of_ob (hB2.obk (.head _)) 0
  have f6 := free_of_ob (hB2.obk (.head _)) 0
  simp only [List.getElem?_toArray, List.getElem?_cons_zero] at c6
  have HC := Lib.hid hC
  have HK := Lib.hid hks
  clear hU h1 h3 h4 hA hlt hcall hC hB2 hks
  have hr0 : (r == 0) = false := by simpa using hr
  go_upto_region 5 with fail
  have hC := HC.out
  generalize w2.setCell ⟨w.heap.size + 1, 0, none⟩ (.int .i64 r) = w3 at *
  clear c6 f6
  have o6 : ob w3 (w.heap.size + 1) = some (.cells #[.int .i64 r] 37 (0, 0)) := hC.obk (.head _)
  have c6 := cell_of_ob o6 0
  have f6 := free_of_ob o6 0
  simp only [List.getElem?_toArray, List.getElem?_cons_zero] at c6
  have hD := hC.set (.head _) 0 (.int .i64 r) (fun x hx => ⟨List.mem_cons_of_mem _ hx, (HK.out x hx).2⟩) (by omega)
  have hD' : BDk W0 (w3.setCell ⟨w.heap.size + 1, 0, none⟩ (.int .i64 r)) bo ([(w.heap.size + 1, .cells #[.int .i64 r] 37 (0, 0)), (w.heap.size, .cells #[.pointer (some ⟨lg, 0, none⟩)] 24 (0, 0))] ++ (lg, lgO v) :: (rk ++ kn)) (fC C) (E ++ ev) := hD
  have HD := Lib.hid hD'
  clear hC HC o6 hD hD'
  go_wp2_with fail
  have hD := HD.out
  generalize w3.setCell ⟨w.heap.size + 1, 0, none⟩ (.int .i64 r) = w4 at *
  have hUL := UL.more (w0 := w) HH.out.2.1 HH.out.2.2.1 HH.out.2.2.2.1 HH.out.1.l0 HH.out.1.go _ (by intro x hx; simp at hx; rcases hx with rfl | rfl <;> simp) HH.out.2.2.2.2.2.2.1 hD
  have d6 := cell_of_ob (hD.obk (.head _)) 0
  have d3 := cell_of_ob (hD.obk (.tail _ (.head _))) 0
  simp only [List.getElem?_toArray, List.getElem?_cons_zero] at d6 d3
  refine leaves_cons (f := 64) (args := #[.pointer (some ⟨w.heap.size + 1, 0, none⟩), .pointer (some ⟨w.heap.size, 0, none⟩)]) (by simp) (by simp [go_sem]) ?_
  refine (cBack_no (w.heap.size + 1) w.heap.size r hr d6 d3 hUL hL (by simp; omega)).mono ?_
  rintro e u' w5 ⟨rfl, rfl, hU5⟩
  have o5 := hU5.obk (.head _)
  have c5 := cell_of_ob o5 0
  simp only [List.getElem?_toArray, List.getElem?_cons_zero] at c5
  have hfin : UL W0 w5 bo lg kn (rollC (fC C) L) (E ++ ev ++ rollE L) [] := hU5.dropNil (fun x hx => List.mem_append_right _ hx)
  have HF := Lib.hid hfin
  clear hUL hD HD HH HK hU5 o5 hfin d6 d3
  simp [Leaves, settle, results, Try.results15, go_sem, c5]
  rw [← List.append_assoc]
  exact HF.out
theorem info1 : (Try.prog.info? 1).map (fun i => (i.zero, i.size, i.bytes)) = some (some .nilFunc, 1, 8) := by kernel_rfl
/-- one function more in a row of the call's own -/
theorem append_fn {w : World} {B : Nat} {v : Value} {xs : List Value} (hown : w.ownsRow B 1 1 v xs.length xs) {b : Nat} {u : Value} (hb : ob w b = some (.cells #[u] 1 (0, 0))) (hu : u.oneCell' = true) (hn : xs.length ≤ 100000) (hB : B ≤ w.heap.size) (ty : TypeId) :
    ∃ va vc w', (Builtin.append_ #[113, 113] ty #[v, .slice (some ⟨b, 0, none⟩) 1 1]).run Try.prog w = .ok (.slice va (xs.length + 1) vc) w' ∧ w'.ownsRow B 1 1 (.slice va (xs.length + 1) vc) (xs.length + 1) (xs ++ [u]) ∧ Keep v.ownBlock.toList w w' ∧
      ((Value.slice va (xs.length + 1) vc).ownBlock = v.ownBlock ∨ (Value.slice va (xs.length + 1) vc).ownBlock = some w.heap.size) := by
  obtain ⟨i, hi, hz2⟩ := Option.map_eq_some_iff.1 info1
  simp only [Prod.mk.injEq] at hz2
  obtain ⟨h1, h2, h3⟩ := hz2
  obtain ⟨v', w', r1, r2, r3, _, r5⟩ := run_append_own_at (w := w) B 113 0 1 i .nilFunc 1 8 Try.underlying113 hi h1 h2 h3 rfl (by omega) v xs.length xs hown ⟨b, 0, none⟩ 1 1 [u] rfl (fun j x hj => by
    rw [add_mk, Nat.zero_add, cell_of_ob hb]; simpa using hj) (by simpa using hu) (by unfold maxLen; omega) (by omega) hB
  obtain ⟨va, vc, rfl⟩ := owns_slice r2
  exact ⟨va, vc, w', r1, r2, Keep.ofGrown r3, r5⟩
theorem BDk.by {W0 w w' : World} {bo : Nat} {kn kn' : List (Nat × Obj)} {C : Nat → Int} {E : List (Int × Int)} {S : List Nat} (h : BDk W0 w bo kn C E) (hk : Keep S w w') (hS : ∀ y ∈ S, (∃ o, (y, o) ∈ kn) ∧ W0.heap.size ≤ y)
    (hn : ∀ x ∈ kn', (x ∈ kn ∧ x.1 ∉ S) ∨ (ob w' x.1 = some x.2 ∧ x.1 ≠ bo ∧ ((∃ o, (x.1, o) ∈ kn) ∨ w.heap.size ≤ x.1))) : BDk W0 w' bo kn' C E := by
  obtain ⟨v, h1, h2, h3⟩ := h.bd
  refine ⟨⟨v, hk.kp h1 (fun hm => ?_), h2.keep hk (fun b hb hm => ?_), fun b hb => ⟨(h3 b hb).1, fun x hx => ?_⟩⟩, fun x hx => ?_, h.kp.andThen hk (fun y hy => .inr (hS y hy).2), h.b0⟩
  · obtain ⟨⟨o, ho⟩, _⟩ := hS bo hm
    exact (h.ow _ ho).2 rfl
  · obtain ⟨⟨o, ho⟩, _⟩ := hS b hm
    exact (h3 b hb).2 _ ho rfl
  · rcases hn x hx with ⟨g1, g2⟩ | ⟨g1, g2, ⟨o, g3⟩ | g3⟩
    · exact (h3 b hb).2 x g1
    · show x.1 ≠ b
      exact (h3 b hb).2 (x.1, o) g3
    · have := ownBlock_lt h2 hb; omega
  · rcases hn x hx with ⟨g1, g2⟩ | ⟨g1, g2, g3⟩
    · exact ⟨hk.kp (h.ow x g1).1 g2, (h.ow x g1).2⟩
    · exact ⟨g1, g2⟩
set_option maxRecDepth 100000 in
set_option maxHeartbeats 2000000 in
theorem uDo_ok {W0 w : World} {bo lg : Nat} {kn : List (Nat × Obj)} {C : Nat → Int} {E : List (Int × Int)} {L : List Cl} (hU : UL W0 w bo lg kn C E L) {dov : Value} {fC : (Nat → Int) → (Nat → Int)} {ev : List (Int × Int)}
    (hdo : RunsTo W0 bo kn dov (.int .i64 0) fC ev) (hev : ev.length ≤ 1) (c : Cl) (hc : c.good W0 bo kn) (hL : L.length ≤ 1000) (hE : E.length ≤ 80000) :
    Calls Try.prog 15 #[.pointer (some ⟨lg, 0, none⟩), dov, c.clo] w fun e w' => e = .returned (.int .i64 0) ∧ UL W0 w' bo lg kn (fC C) (E ++ ev) (L ++ [c]) := by
  obtain ⟨v, rk, h1, h2, h3, h4⟩ := hU.ex
  obtain ⟨N, caps, rfl, hN, hrun⟩ := hdo
  have hone : c.clo.oneCell' = true := by
    obtain ⟨⟨N2, caps2, e2, _⟩, _⟩ := hc
    rw [e2]; rfl
  obtain ⟨N2, caps2, hclo⟩ : ∃ N2 caps2, c.clo = .func (.func N2) #[] caps2 := by
    obtain ⟨⟨N2, caps2, e2, _⟩, _⟩ := hc
    exact ⟨N2, caps2, e2⟩
  obtain ⟨va0, vc0, rfl⟩ : ∃ a b, v = .slice a L.length b := by
    obtain ⟨a, b, e⟩ := owns_slice (h1.owns w (fun x hx => (h2.ow x (List.mem_cons_of_mem _ (List.mem_append_left _ hx))).1))
    exact ⟨a, b, by rw [e, List.length_map]⟩
  obtain ⟨n, hn⟩ : ∃ n, L.length = n := ⟨_, rfl⟩
  rw [hn] at h1 h2
  have hmf : ∀ (fn : Fn) (first cap : Array Value) (w : World), (Instr.makeFunc fn first cap).run Try.prog w = .ok (.func fn first cap) w := fun _ _ _ _ => rfl
  have hA := (h2.alloc #[.pointer (some ⟨lg, 0, none⟩)] 24).alloc #[.int .i64 0] 37
  have hs : (w.alloc (.cells #[.pointer (some ⟨lg, 0, none⟩)] 24)).heap.size = w.heap.size + 1 := by simp
  rw [hs] at hA
  have hx3 : W0.heap.size ≤ w.heap.size := h2.kp.size
  have hlt : ∀ x ∈ (lg, lgO (.slice va0 n vc0)) :: (rk ++ kn), x.1 < w.heap.size := fun x hx => ob_lt (h2.ow x hx).1
  have HH := Lib.hid (And.intro hU (And.intro h1 (And.intro h3 (And.intro h4 (And.intro hA (And.intro hlt (And.intro hrun (And.intro hc hone))))))))
  clear hU h1 h2 h3 h4 hA hs hlt hrun hc hone
  have HBK := Lib.hid hclo
  rw [hclo]
  have HN := Lib.hid hn
  clear hclo hn
  go_enter_defers Try.func15, Try.ntmps15
  go_wp2_with fail
  have hcall := HH.out.2.2.2.2.2.2.1 _ _ _ _ (fun x hx => List.mem_cons_of_mem _ (List.mem_cons_of_mem _ (mem_lg hx))) HH.out.2.2.2.2.1 (by omega)
  refine hcall.mono ?_
  rintro _ w2 ⟨rfl, hB2⟩
  have hlt := HH.out.2.2.2.2.2.1
  have hks : ∀ x ∈ ((w.heap.size, Obj.cells #[Value.pointer (some ⟨lg, 0, none⟩)] 24 (0, 0)) :: (lg, lgO (.slice va0 n vc0)) :: (rk ++ kn)), x ∈ ((w.heap.size + 1, Obj.cells #[Value.int .i64 0] 37 (0, 0)) :: (w.heap.size, Obj.cells #[Value.pointer (some ⟨lg, 0, none⟩)] 24 (0, 0)) :: (lg, lgO (.slice va0 n vc0)) :: (rk ++ kn)) ∧ x.1 ≠ w.heap.size + 1 := fun x hx => ⟨List.mem_cons_of_mem _ hx, by
    rcases List.mem_cons.1 hx with rfl | hx
    · show w.heap.size ≠ w.heap.size + 1; omega
    · have := hlt x hx; omega⟩
  have hC := hB2.set (.head _) 0 (.int .i64 0) hks (by omega)
  have c6 := cell_of_ob (hB2.obk (.head _)) 0
  have f6 := free_of_ob (hB2.obk (.head _)) 0
  simp only [List.getElem?_toArray, List.getElem?_cons_zero] at c6
  have HC := Lib.hid hC
  have HK := Lib.hid hks
  clear hlt hcall hC hB2 hks
  go_upto_region 3 with fail
  have hC := HC.out
  generalize w2.setCell ⟨w.heap.size + 1, 0, none⟩ (.int .i64 0) = w3 at *
  clear c6 f6
  have o6 : ob w3 (w.heap.size + 1) = some (.cells #[.int .i64 0] 37 (0, 0)) := hC.obk (.head _)
  have c6 := cell_of_ob o6 0
  have c3 := cell_of_ob (hC.obk (.tail _ (.head _))) 0
  have cl := cell_of_ob (hC.obk (.tail _ (.tail _ (.head _)))) 0
  simp only [lgO, List.getElem?_toArray, List.getElem?_cons_zero] at c6 c3 cl
  have hlgs : lg < w3.heap.size := ob_lt (hC.obk (.tail _ (.tail _ (.head _))))
  have h3s : w.heap.size < w3.heap.size := ob_lt (hC.obk (.tail _ (.head _)))
  have hE1 := (hC.alloc #[.func (.func N2) #[] caps2] 1).new (Keep.refl _ _).drew
  have hown := HH.out.2.1.owns (w3.alloc (.cells #[.func (.func N2) #[] caps2] 1)).drew (fun x hx => (hE1.ow x (List.mem_cons_of_mem _ (List.mem_cons_of_mem _ (List.mem_cons_of_mem _ (List.mem_cons_of_mem _ (List.mem_append_left _ hx)))))).1)
  have hob : ob (w3.alloc (.cells #[.func (.func N2) #[] caps2] 1)).drew w3.heap.size = some (.cells #[.func (.func N2) #[] caps2] 1 (0, 0)) := al_new w3 (.cells #[.func (.func N2) #[] caps2] 1) rfl
  have hsz : w3.heap.size < (w3.alloc (.cells #[.func (.func N2) #[] caps2] 1)).drew.heap.size := ob_lt hob
  have hsz' : (w3.alloc (.cells #[.func (.func N2) #[] caps2] 1)).drew.heap.size = w3.heap.size + 1 := by simp
  have hone : (Value.func (.func N2) #[] caps2).oneCell' = true := rfl
  obtain ⟨va, vc, w5, happ, own5, kB, hnew⟩ := append_fn hown hob hone (by rw [List.length_map, HN.out]; have := HN.out; omega) (by have := hE1.kp.size; omega) 113
  rw [List.length_map] at happ own5 hnew
  have hn := HN.out
  rw [hn] at happ own5 hnew hL
  -- what stands behind the store
  have hrk : ∀ y ∈ (Value.slice va0 n vc0).ownBlock.toList, ∃ o, (y, o) ∈ rk := fun y hy => HH.out.2.1.cov y (by simpa using hy)
  have hyl : ∀ y ∈ (Value.slice va0 n vc0).ownBlock.toList, y < w.heap.size ∧ y ≠ lg := fun y hy => by
    obtain ⟨o, ho⟩ := hrk y hy
    exact ⟨HH.out.2.2.2.2.2.1 (y, o) (List.mem_cons_of_mem _ (List.mem_append_left _ ho)), HH.out.2.2.1 (y, o) (List.mem_append_left _ ho)⟩
  have olg : ob w5 lg = some (lgO (.slice va0 n vc0)) := kB.kp (hE1.obk (.tail _ (.tail _ (.tail _ (.head _))))) (fun hm => (hyl lg hm).2 rfl)
  have o35 : ob w5 w.heap.size = some (.cells #[.pointer (some ⟨lg, 0, none⟩)] 24 (0, 0)) := kB.kp (hE1.obk (.tail _ (.tail _ (.head _)))) (fun hm => by have := (hyl _ hm).1; omega)
  have c35 := cell_of_ob o35 0
  simp only [List.getElem?_toArray, List.getElem?_cons_zero] at c35
  have clg := cell_of_ob olg 0
  have flg := free_of_ob olg 0
  simp only [lgO, List.getElem?_toArray, List.getElem?_cons_zero] at clg
  have kS : Keep [lg] w5 (w5.setCell ⟨lg, 0, none⟩ (.slice va (n + 1) vc)) := (Keep.refl _ _).setCell (.inl (by simp)) 0 _
  have kF : Keep ((Value.slice va0 n vc0).ownBlock.toList ++ [lg]) (w3.alloc (.cells #[.func (.func N2) #[] caps2] 1)).drew (w5.setCell ⟨lg, 0, none⟩ (.slice va (n + 1) vc)) := (kB.mono (fun x hx => List.mem_append_left _ hx)).trans (kS.mono (fun x hx => List.mem_append_right _ hx))
  have hlgw : lg < w.heap.size := HH.out.2.2.2.2.2.1 (lg, lgO (.slice va0 n vc0)) (.head _)
  have hb5 : ∀ b, (Value.slice va (n + 1) vc).ownBlock = some b → b ≠ lg ∧ b ≠ bo ∧ (∀ y ∈ kn, y.1 ≠ b) ∧ ((∃ o, (b, o) ∈ rk) ∨ (w3.alloc (.cells #[.func (.func N2) #[] caps2] 1)).drew.heap.size ≤ b) := by
    intro b hb
    rcases hnew with hnew | hnew
    · rw [hnew] at hb
      obtain ⟨o, ho⟩ := hrk b (by simpa using hb)
      exact ⟨HH.out.2.2.1 _ (List.mem_append_left _ ho), (hE1.ow (b, o) (List.mem_cons_of_mem _ (List.mem_cons_of_mem _ (List.mem_cons_of_mem _ (List.mem_cons_of_mem _ (List.mem_append_left _ ho)))))).2, fun y hy => HH.out.2.2.2.1 _ ho y hy, .inl ⟨o, ho⟩⟩
    · rw [hnew] at hb
      have hbb : (w3.alloc (.cells #[.func (.func N2) #[] caps2] 1)).drew.heap.size = b := by simpa using hb
      refine ⟨by omega, by have := hE1.lt; omega, fun y hy => ?_, .inr (by omega)⟩
      have := HH.out.2.2.2.2.2.1 y (List.mem_cons_of_mem _ (List.mem_append_right _ hy))
      omega
  have own6 := owns_keep own5 kS (fun b hb hm => (hb5 b hb).1 (by simpa using hm))
  obtain ⟨rk', hK', hob', -⟩ := rowK_of own6
  have hBF : BDk W0 (w5.setCell ⟨lg, 0, none⟩ (.slice va (n + 1) vc)) bo ((w.heap.size + 1, .cells #[.int .i64 0] 37 (0, 0)) :: (lg, lgO (.slice va (n + 1) vc)) :: (rk' ++ kn)) (fC C) (E ++ ev) := by
    refine hE1.by kF (fun y hy => ?_) (fun x hx => ?_)
    · rcases List.mem_append.1 hy with hy | hy
      · obtain ⟨o, ho⟩ := hrk y hy
        exact ⟨⟨o, List.mem_cons_of_mem _ (List.mem_cons_of_mem _ (List.mem_cons_of_mem _ (List.mem_cons_of_mem _ (List.mem_append_left _ ho))))⟩, ownBlock_ge hown (by simpa using hy)⟩
      · simp at hy; subst hy
        exact ⟨⟨_, .tail _ (.tail _ (.tail _ (.head _)))⟩, HH.out.1.l0⟩
    · rcases List.mem_cons.1 hx with rfl | hx
      · refine .inl ⟨.tail _ (.head _), fun hm => ?_⟩
        rcases List.mem_append.1 hm with hm | hm
        · have h1 := (hyl _ hm).1
          simp only at h1
          omega
        · simp at hm; omega
      · rcases List.mem_cons.1 hx with rfl | hx
        · refine .inr ⟨(st_same olg).trans rfl, (hE1.ow _ (.tail _ (.tail _ (.tail _ (.head _))))).2, .inl ⟨_, .tail _ (.tail _ (.tail _ (.head _)))⟩⟩
        · rcases List.mem_append.1 hx with hx | hx
          · obtain ⟨g1, g2, g3, g4⟩ := hb5 x.1 (hK'.blk x hx)
            refine .inr ⟨hob' x hx, g2, g4.imp (fun ⟨o, ho⟩ => ⟨o, List.mem_cons_of_mem _ (List.mem_cons_of_mem _ (List.mem_cons_of_mem _ (List.mem_cons_of_mem _ (List.mem_append_left _ ho))))⟩) id⟩
          · refine .inl ⟨List.mem_cons_of_mem _ (List.mem_cons_of_mem _ (List.mem_cons_of_mem _ (List.mem_cons_of_mem _ (List.mem_append_right _ hx)))), fun hm => ?_⟩
            rcases List.mem_append.1 hm with hm | hm
            · obtain ⟨o, ho⟩ := hrk _ hm
              exact HH.out.2.2.2.1 _ ho x hx rfl
            · simp at hm
              exact HH.out.2.2.1 x (List.mem_append_right _ hx) hm
  have HBF := Lib.hid hBF
  have HRK : Hid (RowK W0.heap.size (.slice va (n + 1) vc) ((L ++ [c]).map (·.clo)) rk' ∧ (∀ x ∈ rk' ++ kn, x.1 ≠ lg) ∧ (∀ x ∈ rk', ∀ y ∈ kn, y.1 ≠ x.1) ∧ (∀ x ∈ rk', x.1 ≠ w.heap.size + 1)) := by
    have h6 := ob_lt o6
    refine Lib.hid ⟨by rw [List.map_append, List.map_cons, List.map_nil, HBK.out]; exact hK', fun x hx => ?_, fun x hx y hy => (hb5 x.1 (hK'.blk x hx)).2.2.1 y hy, fun x hx => ?_⟩
    rotate_left
    · rcases (hb5 x.1 (hK'.blk x hx)).2.2.2 with ⟨o, ho⟩ | hge
      · have := HH.out.2.2.2.2.2.1 (x.1, o) (List.mem_cons_of_mem _ (List.mem_append_left _ ho))
        simp only at this
        omega
      · omega
    rcases List.mem_append.1 hx with hx | hx
    · exact (hb5 x.1 (hK'.blk x hx)).1
    · exact HH.out.2.2.1 x (List.mem_append_right _ hx)
  clear hn hown hob hsz hsz' hone own5 kB hnew hrk hyl olg o35 kS kF hb5 own6 hK' hob' hBF hE1 hC o6 HC HK
  go_upto_region 4 with fail
  go_cut [6] from 12 to 21 (fun s6 wx => s6 = .pointer (some ⟨w.heap.size + 1, 0, none⟩) ∧ wx = w5.setCell ⟨lg, 0, none⟩ (.slice va (n + 1) vc))
  case first =>
    refine wp_region_noPanic ?_
    go_region_law (first | refine step_append_eq rfl _ _ _ rfl rfl rfl happ ?_)
    all_goals
      refine NoPanic.normal ?_
      go_wp2_with fail
      go_meet
      exact ⟨rfl, rfl⟩
  case rest =>
    obtain ⟨rfl, rfl⟩ := hcut
    have hB := HBF.out
    generalize w5.setCell ⟨lg, 0, none⟩ (.slice va (n + 1) vc) = w6 at *
    have o6 : ob w6 (w.heap.size + 1) = some (.cells #[.int .i64 0] 37 (0, 0)) := hB.obk (.head _)
    clear c6 c3 cl happ clg flg c35
    have c6 := cell_of_ob o6 0
    have f6 := free_of_ob o6 0
    simp only [List.getElem?_toArray, List.getElem?_cons_zero] at c6
    have hD := hB.set (.head _) 0 (.int .i64 0) (kn' := (lg, lgO (.slice va (n + 1) vc)) :: (rk' ++ kn)) (fun x hx => ⟨List.mem_cons_of_mem _ hx, by
      rcases List.mem_cons.1 hx with rfl | hx
      · show lg ≠ w.heap.size + 1; omega
      · rcases List.mem_append.1 hx with hx | hx
        · exact HRK.out.2.2.2 x hx
        · have := HH.out.2.2.2.2.2.1 x (List.mem_cons_of_mem _ (List.mem_append_right _ hx))
          omega⟩) (by omega)
    have o7 : ob (w6.setCell ⟨w.heap.size + 1, 0, none⟩ (.int .i64 0)) (w.heap.size + 1) = some (.cells #[.int .i64 0] 37 (0, 0)) := hD.obk (.head _)
    have HU : Hid (UL W0 (w6.setCell ⟨w.heap.size + 1, 0, none⟩ (.int .i64 0)) bo lg kn (fC C) (E ++ ev) (L ++ [c])) := Lib.hid ⟨⟨_, rk', HRK.out.1, hD.dropk (fun x hx => List.mem_cons_of_mem _ hx), HRK.out.2.1, HRK.out.2.2.1⟩, HH.out.1.l0, fun d hd => by
      rcases List.mem_append.1 hd with hd | hd
      · exact HH.out.1.go d hd
      · simp at hd; subst hd; exact HH.out.2.2.2.2.2.2.2.1⟩
    have c7 := cell_of_ob o7 0
    simp only [List.getElem?_toArray, List.getElem?_cons_zero] at c7
    have HC7 := Lib.hid c7
    clear hB HBF hD o6 o7 c7
    go_wp2_with fail
    generalize w6.setCell ⟨w.heap.size + 1, 0, none⟩ (.int .i64 0) = w7 at *
    refine leaves_cons (f := 64) (args := #[.pointer (some ⟨w.heap.size + 1, 0, none⟩), .pointer (some ⟨w.heap.size, 0, none⟩)]) (by simp) (by simp [go_sem]) ?_
    refine (cBack_ok w7 (w.heap.size + 1) w.heap.size HC7.out).mono ?_
    rintro e u' w8 ⟨rfl, rfl, rfl⟩
    have c5 := HC7.out
    simp [Leaves, settle, results, Try.results15, go_sem, c5]
    exact HU.out
end Go.Proofs.Ytfljhfggjbkomaa
