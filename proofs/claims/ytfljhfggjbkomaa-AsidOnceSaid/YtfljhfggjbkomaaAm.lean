import Derived.Test.YtfljhfggjbkomaaAl
import Derived.Deep.RegionHeld3
namespace Go.Proofs.Ytfljhfggjbkomaa
open Go.RowKit
set_option linter.unusedSimpArgs false
set_option linter.unusedVariables false
attribute [local go_sem] ob_alloc ob_drew ob_drewN ob_setCell ob_setBlock objSet_cells obMap_map obClock_map isMapI_map keyI_mk findI_nil findI_cons lookRes_some lookRes_none lookRes_some' lookRes_none' setBlock_alloc mapPut
attribute [local go_sem ↓] eql93 neq93 eql98 neq98

theorem aNew_any (many : Int) (w : World) (B : Nat) (hB : B ≤ w.heap.size) : Calls Try.prog 48 #[.int .i64 many] w fun o w' => Keep [] w w' ∧
    if okMany many then ∃ p, o = .returned (.tuple #[.pointer (some ⟨p, 0, none⟩), .int .i64 0]) ∧ w.heap.size ≤ p ∧ p < w'.heap.size ∧ PoolAt w' p (List.range w.heap.size) (List.replicate many.toNat 0) (List.replicate many.toNat false) else o = .returned (.tuple #[.pointer none, .int .i64 1]) := by
  cases h : okMany many with
  | true =>
    have hm : 1 ≤ many ∧ many ≤ 8 := by simpa [okMany] using h
    obtain ⟨m, rfl⟩ := Int.eq_ofNat_of_zero_le (a := many) (by omega)
    exact (aNew_ok m (by omega) (by omega) w (List.range w.heap.size) (by simp; omega)).mono fun o w' ⟨h1, h2, h3, h4⟩ => ⟨h3, by simp; exact ⟨_, h1, by omega, by omega, h2⟩⟩
  | false => exact (aNew_no many h w).mono fun o w' ⟨h1, h2⟩ => ⟨by subst h2; exact Keep.refl _ _, by simpa using h1⟩
theorem rNew_any (many : Int) (w : World) : Calls Try.prog 49 #[.int .i64 many] w fun o w' => Keep [] w w' ∧
    if okMany many then ∃ p, o = .returned (.tuple #[.pointer (some ⟨p, 0, none⟩), .int .i64 0]) ∧ w.heap.size ≤ p ∧ p < w'.heap.size ∧ RPoolAt w' p (List.range w.heap.size) (List.replicate many.toNat 0) (List.replicate many.toNat false) else o = .returned (.tuple #[.pointer none, .int .i64 1]) := by
  cases h : okMany many with
  | true =>
    have hm : 1 ≤ many ∧ many ≤ 8 := by simpa [okMany] using h
    obtain ⟨m, rfl⟩ := Int.eq_ofNat_of_zero_le (a := many) (by omega)
    exact (rNew_ok m (by omega) (by omega) w (List.range w.heap.size) (by simp; omega)).mono fun o w' ⟨h1, h2, h3, h4⟩ => ⟨h3, by simp; exact ⟨_, h1, by omega, by omega, h2⟩⟩
  | false => exact (rNew_no many h w).mono fun o w' ⟨h1, h2⟩ => ⟨by subst h2; exact Keep.refl _ _, by simpa using h1⟩

/-- two pools that were made one behind the other -/
theorem BothP.start {w1 w2 w3 : World} {p r : Nat} {os : List Int} {bs : List Bool} {os2 : List Int} {bs2 : List Bool} {K : List Nat} (hP : PoolAt w2 p (List.range w1.heap.size) os bs) (hR : RPoolAt w3 r (List.range w2.heap.size) os2 bs2) (hk : Keep [] w2 w3)
    (hp : w1.heap.size ≤ p) (hp2 : p < w2.heap.size) (hr : w2.heap.size ≤ r) (hK : ∀ x, x ∈ K → x < w1.heap.size) (h12 : w1.heap.size ≤ w2.heap.size) : BothP w3 p r K os bs os2 bs2 := by
  obtain ⟨g, m, hg, hm, h1⟩ := hP.out
  obtain ⟨g', m', hg', hm', h2⟩ := hR.out
  have lg : g < w2.heap.size ∧ m < w2.heap.size := by obtain ⟨_, _, _, _, a, b, c, _⟩ := h1; exact ⟨ob_lt b, c.lt⟩
  simp only [List.mem_range] at hg hm hg' hm'
  exact ⟨g, m, g', m', h1.kp hk (by simp) (by simp) (by simp), h2, ⟨fun h => by have := hK _ h; omega, fun h => by have := hK _ h; omega, fun h => by have := hK _ h; omega, fun h => by have := hK _ h; omega, fun h => by have := hK _ h; omega, fun h => by have := hK _ h; omega⟩, by omega, by omega, by omega, by omega, by omega, by omega, by omega, by omega, by omega⟩
end Go.Proofs.Ytfljhfggjbkomaa
