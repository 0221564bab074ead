import Derived.Test.YtfljhfggjbkomaaAh
namespace Go.Proofs.Ytfljhfggjbkomaa
open Go.RowKit
set_option linter.unusedSimpArgs false
set_option linter.unusedVariables false
attribute [local go_sem] ob_alloc ob_drew ob_drewN ob_setCell ob_setBlock objSet_cells obMap_map obClock_map isMapI_map keyI_mk findI_nil findI_cons lookRes_some lookRes_none lookRes_some' lookRes_none' setBlock_alloc mapPut

/-- a pool's own blocks, apart from those of L -/
def PoolGM (w : World) (p g m : Nat) (os : List Int) (bs : List Bool) : Prop :=
  ∃ l, g ≠ p ∧ m ≠ p ∧ g ≠ m ∧ ob w p = some (.cells #[.slice (some ⟨g, 0, none⟩) os.length os.length, .map (some m)] 129 (0, 0)) ∧ ob w g = some (.cells (i64s os).toArray 3 (0, 0)) ∧ MapL w m .i64 tagV l ∧ GivenIs l os bs ∧ 1 ≤ os.length ∧ os.length ≤ 8
theorem PoolAt.out {w : World} {p : Nat} {L : List Nat} {os : List Int} {bs : List Bool} (h : PoolAt w p L os bs) : ∃ g m, g ∉ L ∧ m ∉ L ∧ PoolGM w p g m os bs := by
  obtain ⟨g, m, l, hg, hm, h⟩ := h
  exact ⟨g, m, hg, hm, l, h⟩
theorem PoolGM.at {w : World} {p g m : Nat} {L : List Nat} {os : List Int} {bs : List Bool} (h : PoolGM w p g m os bs) (hg : g ∉ L) (hm : m ∉ L) : PoolAt w p L os bs := by
  obtain ⟨l, h⟩ := h
  exact ⟨g, m, l, hg, hm, h⟩
def RPoolGM (w : World) (p g m : Nat) (os : List Int) (bs : List Bool) : Prop :=
  g ≠ p ∧ m ≠ p ∧ g ≠ m ∧ ob w p = some (.cells #[.slice (some ⟨g, 0, none⟩) os.length os.length, .slice (some ⟨m, 0, none⟩) os.length os.length] 132 (0, 0)) ∧ ob w g = some (.cells (i64s os).toArray 3 (0, 0)) ∧
    ob w m = some (.cells (bools bs).toArray 4 (0, 0)) ∧ os.length = bs.length ∧ 1 ≤ os.length ∧ os.length ≤ 8
theorem RPoolAt.out {w : World} {p : Nat} {L : List Nat} {os : List Int} {bs : List Bool} (h : RPoolAt w p L os bs) : ∃ g m, g ∉ L ∧ m ∉ L ∧ RPoolGM w p g m os bs := by
  obtain ⟨g, m, hg, hm, h⟩ := h
  exact ⟨g, m, hg, hm, h⟩
theorem RPoolGM.at {w : World} {p g m : Nat} {L : List Nat} {os : List Int} {bs : List Bool} (h : RPoolGM w p g m os bs) (hg : g ∉ L) (hm : m ∉ L) : RPoolAt w p L os bs := ⟨g, m, hg, hm, h⟩
theorem PoolGM.kp {S : List Nat} {w w' : World} {p g m : Nat} {os : List Int} {bs : List Bool} (h : PoolGM w p g m os bs) (hk : Keep S w w') (hp : p ∉ S) (hg : g ∉ S) (hm : m ∉ S) : PoolGM w' p g m os bs := by
  obtain ⟨l, h1, h2, h3, h4, h5, h6, h7⟩ := h
  exact ⟨l, h1, h2, h3, hk.kp h4 hp, hk.kp h5 hg, h6.keep hk hm, h7⟩
theorem RPoolGM.kp {S : List Nat} {w w' : World} {p g m : Nat} {os : List Int} {bs : List Bool} (h : RPoolGM w p g m os bs) (hk : Keep S w w') (hp : p ∉ S) (hg : g ∉ S) (hm : m ∉ S) : RPoolGM w' p g m os bs := by
  obtain ⟨h1, h2, h3, h4, h5, h6, h7⟩ := h
  exact ⟨h1, h2, h3, hk.kp h4 hp, hk.kp h5 hg, hk.kp h6 hm, h7⟩

/-- both pools, apart from one another and from the blocks of K -/
def BothP (w : World) (p r : Nat) (K : List Nat) (os : List Int) (bs : List Bool) (os2 : List Int) (bs2 : List Bool) : Prop :=
  ∃ g m g' m', PoolGM w p g m os bs ∧ RPoolGM w r g' m' os2 bs2 ∧ (p ∉ K ∧ r ∉ K ∧ g ∉ K ∧ m ∉ K ∧ g' ∉ K ∧ m' ∉ K) ∧ (p ≠ r ∧ g ≠ r ∧ m ≠ r ∧ g' ≠ p ∧ m' ≠ p ∧ g ≠ g' ∧ g ≠ m' ∧ m ≠ g' ∧ m ≠ m')

theorem BothP.pool {w : World} {p r : Nat} {K : List Nat} {os : List Int} {bs : List Bool} {os2 : List Int} {bs2 : List Bool} (h : BothP w p r K os bs os2 bs2) :
    ∃ g' m', PoolAt w p (K ++ [r, g', m']) os bs ∧ p ∉ K ++ [r, g', m'] ∧ ∀ w' os' bs', PoolAt w' p (K ++ [r, g', m']) os' bs' → Far (K ++ [r, g', m']) p w w' → BothP w' p r K os' bs' os2 bs2 := by
  obtain ⟨g, m, g', m', h1, h2, ⟨k1, k2, k3, k4, k5, k6⟩, n1, n2, n3, n4, n5, n6, n7, n8, n9⟩ := h
  refine ⟨g', m', h1.at (by simp [k3, n2, n6, n7]) (by simp [k4, n3, n8, n9]), by simp [k1, n1, n4.symm, n5.symm], ?_⟩
  intro w' os' bs' hP ⟨S, hS, hk⟩
  obtain ⟨ga, ma, q1, q2, q3⟩ := hP.out
  simp only [List.mem_append, List.mem_cons, List.not_mem_nil, or_false, not_or] at q1 q2
  have h2' : RPoolGM w' r g' m' os2 bs2 := h2.kp hk (fun hx => (hS _ hx).1 (by simp)) (fun hx => (hS _ hx).1 (by simp)) (fun hx => (hS _ hx).1 (by simp))
  exact ⟨ga, ma, g', m', q3, h2', ⟨k1, k2, q1.1, q2.1, k5, k6⟩, n1, q1.2.1, q2.2.1, n4, n5, q1.2.2.1, q1.2.2.2, q2.2.2.1, q2.2.2.2⟩
theorem BothP.ref {w : World} {p r : Nat} {K : List Nat} {os : List Int} {bs : List Bool} {os2 : List Int} {bs2 : List Bool} (h : BothP w p r K os bs os2 bs2) :
    ∃ g m, RPoolAt w r (K ++ [p, g, m]) os2 bs2 ∧ r ∉ K ++ [p, g, m] ∧ ∀ w' os' bs', RPoolAt w' r (K ++ [p, g, m]) os' bs' → Far (K ++ [p, g, m]) r w w' → BothP w' p r K os bs os' bs' := by
  obtain ⟨g, m, g', m', h1, h2, ⟨k1, k2, k3, k4, k5, k6⟩, n1, n2, n3, n4, n5, n6, n7, n8, n9⟩ := h
  refine ⟨g, m, h2.at (by simp [k5, n4, n6.symm, n8.symm]) (by simp [k6, n5, n7.symm, n9.symm]), by simp [k2, n1.symm, n2.symm, n3.symm], ?_⟩
  intro w' os' bs' hP ⟨S, hS, hk⟩
  obtain ⟨ga, ma, q1, q2, q3⟩ := hP.out
  simp only [List.mem_append, List.mem_cons, List.not_mem_nil, or_false, not_or] at q1 q2
  have h1' : PoolGM w' p g m os bs := h1.kp hk (fun hx => (hS _ hx).1 (by simp)) (fun hx => (hS _ hx).1 (by simp)) (fun hx => (hS _ hx).1 (by simp))
  exact ⟨g, m, ga, ma, h1', q3, ⟨k1, k2, k3, k4, q1.1, q2.1⟩, n1, n2, n3, q1.2.1, q2.2.1, fun e => q1.2.2.1 e.symm, fun e => q2.2.2.1 e.symm, fun e => q1.2.2.2 e.symm, fun e => q2.2.2.2 e.symm⟩
theorem BothP.keep {S : List Nat} {w w' : World} {p r : Nat} {K : List Nat} {os : List Int} {bs : List Bool} {os2 : List Int} {bs2 : List Bool} (h : BothP w p r K os bs os2 bs2) (hk : Keep S w w') (hS : ∀ x, x ∈ S → x ∈ K) : BothP w' p r K os bs os2 bs2 := by
  obtain ⟨g, m, g', m', h1, h2, ⟨k1, k2, k3, k4, k5, k6⟩, n⟩ := h
  exact ⟨g, m, g', m', h1.kp hk (fun hx => k1 (hS _ hx)) (fun hx => k3 (hS _ hx)) (fun hx => k4 (hS _ hx)), h2.kp hk (fun hx => k2 (hS _ hx)) (fun hx => k5 (hS _ hx)) (fun hx => k6 (hS _ hx)), ⟨k1, k2, k3, k4, k5, k6⟩, n⟩
/-- new blocks are apart from both -/
theorem BothP.addK {w : World} {p r : Nat} {K K' : List Nat} {os : List Int} {bs : List Bool} {os2 : List Int} {bs2 : List Bool} (h : BothP w p r K os bs os2 bs2) (hK : ∀ x, x ∈ K' → x ∈ K ∨ w.heap.size ≤ x) : BothP w p r K' os bs os2 bs2 := by
  obtain ⟨g, m, g', m', h1, h2, ⟨k1, k2, k3, k4, k5, k6⟩, n⟩ := h
  have l : ∀ x, x < w.heap.size → x ∉ K → x ∉ K' := fun x hx hn hm => by rcases hK x hm with a | a; exact hn a; omega
  have lp : p < w.heap.size ∧ g < w.heap.size ∧ m < w.heap.size := by obtain ⟨_, _, _, _, a, b, c, _⟩ := h1; exact ⟨ob_lt a, ob_lt b, c.lt⟩
  have lr : r < w.heap.size ∧ g' < w.heap.size ∧ m' < w.heap.size := by obtain ⟨_, _, _, a, b, c, _⟩ := h2; exact ⟨ob_lt a, ob_lt b, ob_lt c⟩
  exact ⟨g, m, g', m', h1, h2, ⟨l _ lp.1 k1, l _ lr.1 k2, l _ lp.2.1 k3, l _ lp.2.2 k4, l _ lr.2.1 k5, l _ lr.2.2 k6⟩, n⟩
end Go.Proofs.Ytfljhfggjbkomaa
