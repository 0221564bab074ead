import Derived.Test.YtfljhfggjbkomaaUd
namespace Go.Proofs.Ytfljhfggjbkomaa
open Go.RowKit
set_option linter.unusedSimpArgs false
set_option linter.unusedVariables false
attribute [local go_sem] ob_alloc ob_drew ob_drewN ob_setCell ob_setBlock objSet_cells obMap_map obClock_map isMapI_map keyI_mk findI_nil findI_cons lookRes_some lookRes_none lookRes_some' lookRes_none' setBlock_alloc mapPut

theorem BDk.start {W0 w : World} (hk : Keep [] W0 w) (C : Nat → Int) : BDk W0 (w.alloc (bdO C (.slice none 0 0))) w.heap.size [] C [] :=
  ⟨⟨_, al_new w (bdO C (.slice none 0 0)) rfl, RowE.nil _ _, fun b hb => by cases hb⟩, by simp, hk.alloc _, hk.size⟩
theorem BDk.len {W0 w : World} {bo : Nat} {kn : List (Nat × Obj)} {C : Nat → Int} {E : List (Int × Int)} (h : BDk W0 w bo kn C E) : ∃ va vc, ob w bo = some (bdO C (.slice va E.length vc)) := by
  obtain ⟨v, h1, h2, _⟩ := h.bd
  obtain ⟨va, vc, rfl⟩ := h2.slice
  exact ⟨va, vc, h1⟩
theorem UL.good1 {W0 : World} {bo : Nat} {kn cb : List (Nat × Obj)} {clo : Value} {fC : (Nat → Int) → (Nat → Int)} {ev : List (Int × Int)} (h : RunsTo W0 bo cb clo (.tuple #[]) fC ev) (hs : ∀ x ∈ cb, x ∈ kn) (he : ev.length ≤ 1) : (⟨clo, fC, ev⟩ : Cl).good W0 bo kn := ⟨h.mono hs, he⟩
theorem UL.alloc {W0 w : World} {bo lg : Nat} {kn : List (Nat × Obj)} {C : Nat → Int} {E : List (Int × Int)} {L : List Cl} (h : UL W0 w bo lg kn C E L) (cs : Array Value) (t : TypeId) : UL W0 (w.alloc (.cells cs t)) bo lg ((w.heap.size, .cells cs t (0, 0)) :: kn) C E L := by
  obtain ⟨v, rk, h1, h2, h3, h4⟩ := h.ex
  have hlt : ∀ x ∈ (lg, lgO v) :: (rk ++ kn), x.1 < w.heap.size := fun x hx => ob_lt (h2.ow x hx).1
  exact UL.more (w0 := w) h1 h3 h4 h.l0 h.go [(w.heap.size, .cells cs t (0, 0))] (by simp) hlt (h2.alloc cs t)
theorem UL.new {W0 w w' : World} {bo lg : Nat} {kn : List (Nat × Obj)} {C : Nat → Int} {E : List (Int × Int)} {L : List Cl} (h : UL W0 w bo lg kn C E L) (hk : Keep [] w w') : UL W0 w' bo lg kn C E L := by
  obtain ⟨v, rk, h1, h2, h3, h4⟩ := h.ex
  exact ⟨⟨v, rk, h1, h2.new hk, h3, h4⟩, h.l0, h.go⟩
theorem UL.kp {W0 w : World} {bo lg : Nat} {kn : List (Nat × Obj)} {C : Nat → Int} {E : List (Int × Int)} {L : List Cl} (h : UL W0 w bo lg kn C E L) : Keep [] W0 w := h.bdk.kp
set_option maxRecDepth 100000 in
set_option maxHeartbeats 2000000 in
theorem awake21 (W0 w : World) (hk : Keep [] W0 w) : Calls Try.prog 13 #[] w fun e w' => e = .returned (.bool true) ∧ Keep [] W0 w' := by
  have hmf : ∀ (fn : Fn) (first cap : Array Value) (w : World), (Instr.makeFunc fn first cap).run Try.prog w = .ok (.func fn first cap) w := fun _ _ _ _ => rfl
  have h0 := BDk.start hk (fun _ => 0)
  have h1 := h0.alloc #[.pointer (some ⟨w.heap.size, 0, none⟩)] 26
  have hs : (w.alloc (bdO (fun _ => 0) (.slice none 0 0))).heap.size = w.heap.size + 1 := by simp
  rw [hs] at h1
  have H1 := Lib.hid h1
  have hne : w.heap.size ≤ w.heap.size + 1 := by omega
  clear h0 h1 hs
  go_enter Try.func13, Try.ntmps13
  go_wp2_with fail
  have hB1 := H1.out
  simp only [bdO] at hB1
  generalize (w.alloc (.cells #[.int .i64 0, .int .i64 0, .int .i64 0, .int .i64 0, .slice none 0 0] 30)).alloc (.cells #[.pointer (some ⟨w.heap.size, 0, none⟩)] 26) = w1 at *
  generalize w.heap.size + 1 = pb at *
  generalize w.heap.size = bo at *
  clear H1 hne hk
  refine (uNew w1).mono ?_
  rintro _ w2 ⟨rfl, rfl⟩
  have hU := (UL.start hB1).alloc #[.int .i64 0, .int .i64 5, .int .i64 0] 36
  have hs2 : (w1.alloc (lgO (.slice none 0 0))).heap.size = w1.heap.size + 1 := by simp [lgO]
  rw [hs2] at hU
  have HU := Lib.hid hU
  clear hU hB1 hs2
  simp only [lgO]
  go_wp2_with fail
  have hU := HU.out
  simp only [lgO] at hU
  generalize (w1.alloc (.cells #[.slice none 0 0] 115)).alloc (.cells #[.int .i64 0, .int .i64 5, .int .i64 0] 36) = w3 at *
  generalize w1.heap.size + 1 = po at *
  generalize w1.heap.size = lg at *
  clear HU
  have hdo := (do60_ok W0 bo pb po ⟨0, 5, 0⟩ rfl).mono (cb' := [(po, vO ⟨0, 5, 0⟩), (pb, vB bo)]) (by simp)
  have hba := UL.good1 (kn := [(po, vO ⟨0, 5, 0⟩), (pb, vB bo)]) (ba61 W0 bo pb po ⟨0, 5, 0⟩) (by simp) (by simp)
  refine (uDo_ok hU hdo (by simp) _ hba (by simp) (by simp)).mono ?_
  rintro _ w4 ⟨rfl, hU4⟩
  have H4 := Lib.hid hU4
  clear hU hU4 hdo hba
  go_wp2_with fail
  refine (uLen H4.out).mono ?_
  rintro _ w5 ⟨rfl, rfl⟩
  go_wp2_with fail
  refine (uDo_no H4.out (gap62 W0 bo _) (by omega) (by simp) (by simp) (by simp)).mono ?_
  rintro _ w6 ⟨rfl, hU6⟩
  have H6 := Lib.hid hU6
  clear hU6 H4
  go_wp2_with fail
  refine (uLen H6.out).mono ?_
  rintro _ w7 ⟨rfl, rfl⟩
  have hb7 := H6.out.bdk
  obtain ⟨va, vc, hbo⟩ := hb7.len
  have c0 : w7.cell? ⟨bo, 0, none⟩ = some (.int .i64 0) := by
    have := cell_of_ob hbo 0
    simpa [rollC, unC, doC, updC, opQ, wrap64] using this
  have c4 : w7.cell? ⟨bo, 4, none⟩ = some (.slice va 2 vc) := cell_of_ob hbo 4
  have cp : w7.cell? ⟨pb, 0, none⟩ = some (.pointer (some ⟨bo, 0, none⟩)) := cell_of_ob (hb7.obk (.tail _ (.head _))) 0
  have HK := Lib.hid hb7.kp
  clear hb7 hbo H6
  go_wp2
  go_ret
  exact ⟨rfl, HK.out⟩
end Go.Proofs.Ytfljhfggjbkomaa
