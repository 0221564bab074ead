import Derived.Test.YtehmjjfgefopdaaZa
namespace Go.Proofs.Ytehmjjfgefopdaa
open Go.RowKit
set_option linter.unusedSimpArgs false
set_option linter.unusedVariables false
attribute [local go_sem] ob_alloc ob_drew ob_drewN ob_setCell ob_setBlock objSet_cells obMap_map obClock_map isMapI_map keyI_mk findI_nil findI_cons lookRes_some lookRes_none lookRes_some' lookRes_none' setBlock_alloc mapPut

theorem MemE.zero {w : World} {m g n : Nat} (h : MemAt w m g n (fun _ => 0)) : MemE w m g n (fun _ _ => eZ) :=
  ⟨h.congr (fun i _ => by unfold sE; rw [wE_Z]; rfl), fun _ _ => show okE eZ = true by decide⟩
theorem ST.begin {W0 w : World} {bd m g n R : Nat} {M : Nat → Nat → EN} {L : LS} {F : List Nat} (hM : MemE w m g n M) (hB : BudAt w bd m L [] F) (hS : BS n R L []) (hk : Keep [] W0 w) (hg : W0.heap.size ≤ g) (hF : ∀ b ∈ F, W0.heap.size ≤ b) : ST W0 w bd m g n R M [] := ⟨hM, hk, hg, L, F, hB, hS, hF⟩
section
variable {W0 w : World} {bd m g n R : Nat} {M : Nat → Nat → EN} {H : List Nat}
theorem ST.space (h : ST W0 w bd m g n R M H) (hl : H.length + R < n) : Calls Try.prog 7 #[.pointer (some ⟨m, 0, none⟩), .pointer (some ⟨bd, 0, none⟩)] w fun o w' => ∃ r sp : Nat, o = .returned (.tuple #[.pointer (some ⟨sp, 0, none⟩), .int .i64 0]) ∧ ob w' sp = some (spO m bd r) ∧ ST W0 w' bd m g n R M (H ++ [r]) ∧ Stay w w' ∧ r ∉ H := by
  obtain ⟨L, F, h1, h2, h3⟩ := h.call
  refine (sNew w bd m g n R M L H F h.me h1 h2 hl).mono ?_
  rintro _ w' ⟨r, sp, rfl, g1, g2, g3, g4, _⟩
  obtain ⟨k1, k2⟩ := h3 w' M _ g3
  exact ⟨r, sp, rfl, g1, k1, k2, g4⟩
variable {sp tp rs rt : Nat} {lvs lvt : LV}
theorem TS.map (h : TS W0 w bd m g n R sp tp rs rt M H lvs lvt) (hroom : H.length + 2 + R ≤ n) (p : Int) (fr : Nat) (hfr : fr < n) (ww : Bool) :
    Calls Try.prog 8 #[.pointer (some ⟨sp, 0, none⟩), .int .i64 p, .int .i64 (fr : Int), .bool ww] w fun o w' => ∃ v M' H' lv', o = .returned v ∧ TS W0 w' bd m g n R sp tp rs rt M' H' lv' lvt ∧ Stay w w' ∧ H'.length ≤ H.length + 2 ∧ ∀ p, fEI M' rt p = fEI M rt p := by
  obtain ⟨L, F, h1, h2, h3⟩ := h.st.call
  refine (sMap w bd m g n R rs sp M L H F lvs h.st.me h1 h2 h.os h.ss h.zs h.sown hroom p fr hfr ww).mono ?_
  rintro _ w' ⟨e, M', H', lv', rfl, g1, g2, g3, g4, g5, _⟩
  obtain ⟨k1, k2⟩ := h3 w' M' H' g1
  obtain ⟨j1, j2⟩ := h.move k1 k2 g2 g3 g4
  exact ⟨_, M', H', lv', rfl, j1, k2, g5, j2⟩
theorem TS.unmap (h : TS W0 w bd m g n R sp tp rs rt M H lvs lvt) (p : Int) :
    Calls Try.prog 10 #[.pointer (some ⟨sp, 0, none⟩), .int .i64 p] w fun o w' => ∃ v M' H' lv', o = .returned v ∧ TS W0 w' bd m g n R sp tp rs rt M' H' lv' lvt ∧ Stay w w' ∧ ∀ p, fEI M' rt p = fEI M rt p := by
  obtain ⟨L, F, h1, h2, h3⟩ := h.st.call
  refine (sUnmap w bd m g n R rs sp M L H F lvs h.st.me h1 h2 h.os h.ss h.zs h.sown p).mono ?_
  rintro _ w' ⟨v, M', H', lv', rfl, g1, g2, g3, g4, _⟩
  obtain ⟨k1, k2⟩ := h3 w' M' H' g1
  obtain ⟨j1, j2⟩ := h.move k1 k2 g2 g3 g4
  exact ⟨_, M', H', lv', rfl, j1, k2, j2⟩
theorem TS.find (h : TS W0 w bd m g n R sp tp rs rt M H lvs lvt) (p : Int) : Calls Try.prog 9 #[.pointer (some ⟨sp, 0, none⟩), .int .i64 p] w (FindP w (fEI M rs p)) :=
  sFind w m bd g n rs sp M h.st.me h.os lvs h.ss h.slt p
theorem TS.tables (h : TS W0 w bd m g n R sp tp rs rt M H lvs lvt) : Calls Try.prog 11 #[.pointer (some ⟨sp, 0, none⟩)] w (TblP w lvs) :=
  sTables w m bd g n rs sp M h.st.me h.os lvs h.ss h.slt
end
/-- a block of another kind is written -/
theorem TS.wr {W0 w w' : World} {bd m g n R sp tp rs rt : Nat} {M : Nat → Nat → EN} {H : List Nat} {lvs lvt : LV} (h : TS W0 w bd m g n R sp tp rs rt M H lvs lvt) {b : Nat} {cs : Array Value} {t : TypeId} {f : Nat × Nat} (hb : ob w b = some (.cells cs t f)) (h1 : (t == 55) = false) (h3 : (t == 3) = false) (h51 : t ≠ 51) (h107 : t ≠ 107) (h60 : t ≠ 60) (hn : W0.heap.size ≤ b) (k : Keep [b] w w') : TS W0 w' bd m g n R sp tp rs rt M H lvs lvt := by
  have hbm := h.st.me.mne hb h51
  have hbg := h.st.me.gne hb h107
  have hne : ∀ s r, ob w s = some (spO m bd r) → s ∉ [b] := fun s r hs hm => by
    simp only [List.mem_singleton] at hm
    subst hm
    rw [hb] at hs
    simp only [spO, Option.some.injEq, Obj.cells.injEq] at hs
    exact h60 hs.2.1
  obtain ⟨L, F, e1, e2, e3⟩ := h.st.ex
  have hbF : b ∉ F := e1.not (ob_kind hb h1 h3)
  exact ⟨⟨h.st.me.keep k (by simpa using hbm.symm) (by simpa using hbg.symm), h.st.kp.andThen k (fun x hx => .inr (by simp at hx; omega)), h.st.gg, L, F, e1.keep k (fun x hx hm => hbF (by simp at hm; subst hm; exact hx)), e2, e3⟩, h.ss, h.tt, h.dj, h.hd, h.zs, k.kp h.os (hne _ _ h.os), k.kp h.ot (hne _ _ h.ot)⟩
/-! ### mapped -/
set_option maxRecDepth 100000 in
set_option maxHeartbeats 1000000 in
theorem sMapped (w : World) : Calls Try.prog 4 #[] w fun o w' => o = .returned (.bool true) ∧ Keep [] w w' := by
  have HN := Lib.hid (mNew_ok 8 (by omega) (by omega) w)
  go_enter Try.func4, Try.ntmps4
  go_wp2_with fail
  refine HN.out.mono ?_
  rintro _ w1 ⟨rfl, hM1, hK1, hz1⟩
  have HM1 := Lib.hid (MemE.zero hM1)
  have HK1 := Lib.hid (And.intro hK1 hz1)
  obtain ⟨m, hm⟩ : ∃ m, w.heap.size + 1 = m := ⟨_, rfl⟩
  obtain ⟨g, hg⟩ : ∃ g, w.heap.size = g := ⟨_, rfl⟩
  have HG := Lib.hid hg
  rw [hm, hg] at HM1
  rw [hm]
  clear hM1 hK1 hz1 hm hg HN
  go_wp2_with fail
  refine (bNew w1 m g 8 0 _ HM1.out (by omega)).mono ?_
  rintro _ w2 ⟨bd, L, F, rfl, hB, hS, hK2, hG2, _⟩
  have HST : Hid (ST w w2 bd m g 8 0 (fun _ _ => eZ) []) := Lib.hid (ST.begin (HM1.out.keep hK2 (by simp) (by simp)) hB hS (HK1.out.1.trans hK2) (by rw [HG.out]; exact Nat.le_refl _) (fun b hb => by
    rcases hG2 b hb with h | h
    · cases h
    · have := HK1.out.1.size; omega))
  clear hB hS hK2 hG2 HM1 HK1
  go_wp2_with fail
  refine (HST.out.space (by simp)).mono ?_
  rintro _ w3 ⟨r, sp, rfl, ho, hST3, _, _⟩
  have HO3 := Lib.hid ho
  have HST3 := Lib.hid hST3
  obtain ⟨L3, F3, b1, b2, b3⟩ := hST3.call
  have HB3 := Lib.hid b3
  have HS0 : Hid (Sp (fun _ _ => eZ) r (lv0 r)) := Lib.hid (Sp.new (fun _ _ => rfl))
  have HMap := Lib.hid (sMap w3 bd m g 8 0 r sp _ L3 _ F3 (lv0 r) hST3.me b1 b2 ho HS0.out (fun f _ p _ => rfl) (fun f hf => by rw [lv0_ne.1 hf]; simp) (by simp) 5 7 (by omega) true)
  clear ho hST3 b1 b2 b3 HST
  go_wp2_with fail
  refine HMap.out.mono ?_
  rintro _ w4 ⟨e, M', H', lv', rfl, g1, g2, g3, g4, g5, g6⟩
  obtain ⟨rfl, hfe⟩ := g6 (by decide) (by unfold fEI; rw [if_pos (by decide), fE_no (k := 0) (by omega) (by rfl)]; rfl)
  obtain ⟨hST4, hy4⟩ := HB3.out w4 M' H' g1
  have ho4 := hy4.sp HO3.out
  have HRt := Lib.hid (sRoot w4 sp m bd r ho4)
  have HW := Lib.hid (pWalkX w4 m g 8 M' hST4.me r lv' g2 (fun f hf => by
    obtain ⟨L', F', _, hbs, _⟩ := hST4.ex
    exact (hbs.held (g4.own f hf)).2) 5)
  have HST4 := Lib.hid hST4
  have HFE := Lib.hid hfe
  clear g1 g2 g3 g4 g5 g6 hfe hST4 hy4 ho4 HMap HB3 HS0 HO3 HST3
  go_wp2_with fail
  refine HRt.out.mono ?_
  rintro _ w5 ⟨rfl, rfl⟩
  go_wp2_with fail
  refine HW.out.mono ?_
  rintro _ w6 ⟨hk6, v6, c6, rfl, hc6⟩
  rw [HFE.out] at hc6 ⊢
  obtain rfl : c6 = 0 := hc6.2 rfl
  have HK6 := Lib.hid (HST4.out.kp.trans hk6)
  clear hc6 hk6
  unfold EN.val
  go_wp2_with fail
  go_ret
  exact ⟨rfl, HK6.out.alloc _⟩
end Go.Proofs.Ytehmjjfgefopdaa
