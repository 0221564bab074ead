import Derived.Test.YtfljhfggjbkomaaUi
namespace Go.Proofs.Ytfljhfggjbkomaa
open Go.RowKit
set_option linter.unusedSimpArgs false
set_option linter.unusedVariables false
attribute [local go_sem] ob_alloc ob_drew ob_drewN ob_setCell ob_setBlock objSet_cells obMap_map obClock_map isMapI_map keyI_mk findI_nil findI_cons lookRes_some lookRes_none lookRes_some' lookRes_none' setBlock_alloc mapPut

def runC (C : Nat → Int) (O : Nat → OpB) : Nat → (Nat → Int)
  | 0 => C
  | k + 1 => doC (runC C O k) (O k)
def evU : Nat → List (Int × Int)
  | 0 => []
  | k + 1 => evU k ++ [(1, (k : Int))]
def evD : Nat → List (Int × Int)
  | 0 => []
  | k + 1 => (2, (k : Int)) :: evD k
def backs (B : Nat → Value) (O : Nat → OpB) : Nat → List Cl
  | 0 => []
  | k + 1 => backs B O k ++ [⟨B k, fun C => unC C (O k), [(2, (k : Int))]⟩]
theorem backs_len (B : Nat → Value) (O : Nat → OpB) : ∀ k, (backs B O k).length = k
  | 0 => rfl
  | k + 1 => by simp [backs, backs_len B O k]
theorem evU_len : ∀ k, (evU k).length = k
  | 0 => rfl
  | k + 1 => by simp [evU, evU_len k]
theorem evD_len : ∀ k, (evD k).length = k
  | 0 => rfl
  | k + 1 => by simp [evD, evD_len k]
theorem evU_get : ∀ k j, j < k → (evU k)[j]? = some (1, (j : Int))
  | 0, _, h => by omega
  | k + 1, j, h => by
    unfold evU
    by_cases e : j = k
    · subst e; rw [List.getElem?_append_right (by rw [evU_len]; omega), evU_len]; simp
    · rw [List.getElem?_append_left (by rw [evU_len]; omega)]; exact evU_get k j (by omega)
theorem evD_get : ∀ k j, j < k → (evD k)[j]? = some (2, (k : Int) - 1 - (j : Int))
  | 0, _, h => by omega
  | k + 1, 0, h => by simp [evD]
  | k + 1, j + 1, h => by
    have := evD_get k j (by omega)
    simp only [evD, List.getElem?_cons_succ, this, Option.some.injEq, Prod.mk.injEq, true_and]
    omega
theorem In4.runC {C : Nat → Int} (h : In4 C) (O : Nat → OpB) : ∀ k, In4 (Go.Proofs.Ytfljhfggjbkomaa.runC C O k)
  | 0 => h
  | k + 1 => (In4.runC h O k).doC _
theorem rollC_backs {C : Nat → Int} (h : In4 C) (B : Nat → Value) (O : Nat → OpB) : ∀ k, rollC (runC C O k) (backs B O k) = C
  | 0 => rfl
  | k + 1 => by
    show rollC (doC (runC C O k) (O k)) (backs B O k ++ [_]) = C
    rw [rollC_snoc]
    show rollC (unC (doC (runC C O k) (O k)) (O k)) (backs B O k) = C
    rw [un_do (h.runC O k)]
    exact rollC_backs h B O k
theorem rollE_backs (B : Nat → Value) (O : Nat → OpB) : ∀ k, rollE (backs B O k) = evD k
  | 0 => rfl
  | k + 1 => by
    show rollE (backs B O k ++ [_]) = _
    rw [rollE_snoc, rollE_backs B O k]; rfl
def AllQ (W0 : World) (bo : Nat) (kn : List (Nat × Obj)) (C : Nat → Int) (O : Nat → OpB) (n : Nat) (e : Ending) (w' : World) : Prop :=
  ((∀ j, j < n → (O j).fail = 0) ∧ e = .returned (.int .i64 0) ∧ BDk W0 w' bo kn (runC C O n) (evU n)) ∨
  (∃ b, b < n ∧ (∀ j, j < b → (O j).fail = 0) ∧ (O b).fail ≠ 0 ∧ e = .returned (.int .i64 (O b).fail) ∧ BDk W0 w' bo kn C (evU (b + 1) ++ evD b))
set_option maxRecDepth 100000 in
set_option maxHeartbeats 4000000 in
theorem all58 {W0 w : World} {bo : Nat} {kn : List (Nat × Obj)} {v : Value} {O : Nat → OpB} {n : Nat} {C : Nat → Int} (hS : StepsIs W0 bo kn v O n) (hB : BDk W0 w bo kn C []) (hC : In4 C) (h60 : n ≤ 60) :
    Calls Try.prog 58 #[v] w (AllQ W0 bo kn C O n) := by
  obtain ⟨a0, cap0, rfl, hcap⟩ := hS.slice
  obtain ⟨D, B, hr, hc⟩ := hS.runs
  have HH := Lib.hid (And.intro hr (And.intro hc (And.intro hC hB)))
  clear hS hr hc hC hB
  go_enter Try.func58, Try.ntmps58
  go_wp2_with fail
  refine (uNew w).mono ?_
  rintro _ w2 ⟨rfl, rfl⟩
  have hU := UL.start HH.out.2.2.2
  simp only [lgO] at hU ⊢
  generalize w.alloc (.cells #[.slice none 0 0] 115) = w2 at *
  generalize w.heap.size = lg at *
  have HU := Lib.hid hU
  clear hU
  go_wp2_with fail
  go_loopg [10] n (fun gn i wr => ∃ (k : Nat) (kn' : List (Nat × Obj)), i = .int .i64 k ∧ k ≤ n ∧ gn = n - k ∧ UL W0 wr bo lg kn' (runC C O k) (evU k) (backs B O k) ∧ (∀ x ∈ kn, x ∈ kn') ∧ (∀ j, j < k → (O j).fail = 0))
  case atStart => exact ⟨0, _, rfl, by omega, by omega, HU.out, fun x hx => hx, fun j hj => by omega⟩
  case round =>
    clear HU
    obtain ⟨k, kn', rfl, hkn, rfl, hU, hsub, hok⟩ := hrel
    by_cases hlt : k < n
    · obtain ⟨hr0, hr1, hg, hD1, hB1⟩ := HH.out.1 k hlt
      obtain ⟨g, c, hveq, d0, d1⟩ := HH.out.2.1 wr (fun x hx => hU.obk (hsub x hx)) k hlt
      simp only [Value.slice.injEq, true_and] at hveq
      obtain ⟨rfl, rfl⟩ := hveq
      obtain ⟨⟨N2, caps2, e2, hN2, hrun2⟩, hev2⟩ := hg
      have hg' : (⟨.func (.func N2) #[] caps2, fun C => unC C (O k), [(2, (k : Int))]⟩ : Cl).good W0 bo kn := ⟨⟨N2, caps2, rfl, hN2, hrun2⟩, hev2⟩
      simp only at e2
      rw [e2] at d1
      by_cases hf : (O k).fail = 0
      · obtain ⟨N1, caps1, e1, hN1, hrun1⟩ := hr0 hf
        have hdo : RunsTo W0 bo kn (.func (.func N1) #[] caps1) (.int .i64 0) (fun C => doC C (O k)) [(1, (k : Int))] := ⟨N1, caps1, rfl, hN1, hrun1⟩
        rw [e1] at d0
        have hA := hU.alloc #[.func (.func N1) #[] caps1, .func (.func N2) #[] caps2] 135
        have hcall := uDo_ok hA (hdo.mono (fun x hx => List.mem_cons_of_mem _ (hsub x hx))) (by simp) ⟨.func (.func N2) #[] caps2, fun C => unC C (O k), [(2, (k : Int))]⟩ ⟨hg'.1.mono (fun x hx => List.mem_cons_of_mem _ (hsub x hx)), hg'.2⟩ (by rw [backs_len]; omega) (by rw [evU_len]; omega)
        have x0 := cell_of_ob (hA.obk (.head _)) 0
        have x1 := cell_of_ob (hA.obk (.head _)) 1
        simp only [List.getElem?_toArray, List.getElem?_cons_zero, List.getElem?_cons_succ] at x0 x1
        have HX := Lib.hid (And.intro x0 x1)
        have HK := Lib.hid (And.intro hsub (And.intro hok (And.intro hf e2)))
        clear hU hr0 hr1 hD1 hB1 hg' hN2 hrun2 hev2 hrun1 hdo hA hsub hok hf e1 e2 x0 x1
        go_upto_region 5 with fail
        have x0 := HX.out.1
        have x1 := HX.out.2
        generalize wr.heap.size = xs at *
        generalize wr.alloc (.cells #[.func (.func N1) #[] caps1, .func (.func N2) #[] caps2] 135) = w3 at *
        clear HX d0 d1
        go_wp2_with fail
        refine hcall.mono ?_
        rintro _ w4 ⟨rfl, hU4⟩
        have H4 := Lib.hid hU4
        clear hcall hU4 x0 x1 hN1
        go_wp2_with fail
        go_roundg (n - (k + 1))
        case measure => omega
        case rel => exact ⟨k + 1, _, by go_num, by omega, rfl, by simp only [backs, HK.out.2.2.2]; exact H4.out, fun x hx => List.mem_cons_of_mem _ (HK.out.1 x hx), fun j hj => by
          by_cases e : j = k
          · subst e; exact HK.out.2.2.1
          · exact HK.out.2.1 j (by omega)⟩
      · obtain ⟨N1, caps1, e1, hN1, hrun1⟩ := hr1 hf
        have hdo : RunsTo W0 bo kn (.func (.func N1) #[] caps1) (.int .i64 (O k).fail) (fun C => C) [(1, (k : Int))] := ⟨N1, caps1, rfl, hN1, hrun1⟩
        rw [e1] at d0
        have hA := hU.alloc #[.func (.func N1) #[] caps1, .func (.func N2) #[] caps2] 135
        have hcall := uDo_no hA (back := .func (.func N2) #[] caps2) (hdo.mono (fun x hx => List.mem_cons_of_mem _ (hsub x hx))) hf (by simp) (by rw [backs_len]; omega) (by rw [evU_len]; omega)
        rw [rollC_backs HH.out.2.2.1, rollE_backs] at hcall
        have x0 := cell_of_ob (hA.obk (.head _)) 0
        have x1 := cell_of_ob (hA.obk (.head _)) 1
        simp only [List.getElem?_toArray, List.getElem?_cons_zero, List.getElem?_cons_succ] at x0 x1
        have HX := Lib.hid (And.intro x0 x1)
        have HK := Lib.hid (And.intro hsub (And.intro hok hf))
        have hfb : ((O k).fail != 0) = true := by simpa using hf
        clear hU hr0 hr1 hD1 hB1 hg' hN2 hrun2 hev2 hrun1 hdo hA hsub hok hf e1 e2 x0 x1
        go_upto_region 5 with fail
        have x0 := HX.out.1
        have x1 := HX.out.2
        generalize wr.heap.size = xs at *
        generalize wr.alloc (.cells #[.func (.func N1) #[] caps1, .func (.func N2) #[] caps2] 135) = w3 at *
        clear HX d0 d1
        go_wp2_with fail
        refine hcall.mono ?_
        rintro _ w4 ⟨rfl, hU4⟩
        have HE : Hid (AllQ W0 bo kn C O n (.returned (.int .i64 (O k).fail)) w4) := Lib.hid (.inr ⟨k, hlt, HK.out.2.1, HK.out.2.2, rfl, hU4.bdk.dropk (fun x hx => List.mem_cons_of_mem _ (HK.out.1 x hx))⟩)
        clear hcall hU4 x0 x1 hN1 HK
        generalize (O k).fail = r at *
        go_wp2_with fail
        go_ret
        exact HE.out
    · obtain rfl : k = n := by omega
      have HU := Lib.hid (And.intro hU (And.intro hsub hok))
      clear hU hsub hok
      go_wp2_with fail
      refine (uKeep HU.out.1).mono ?_
      rintro _ w4 ⟨rfl, hU4⟩
      have HE : Hid (AllQ W0 bo kn C O k (.returned (.int .i64 0)) w4) := Lib.hid (.inl ⟨HU.out.2.2, rfl, hU4.bdk.dropk (fun x hx => HU.out.2.1 x hx)⟩)
      clear hU4 HU
      go_wp2_with fail
      go_ret
      exact HE.out
end Go.Proofs.Ytfljhfggjbkomaa
