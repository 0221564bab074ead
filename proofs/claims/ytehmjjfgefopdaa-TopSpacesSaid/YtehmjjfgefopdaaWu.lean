import Derived.Test.YtehmjjfgefopdaaWt
namespace Go.Proofs.Ytehmjjfgefopdaa
open Go.RowKit
set_option linter.unusedSimpArgs false
set_option linter.unusedVariables false
attribute [local go_sem] ob_alloc ob_drew ob_drewN ob_setCell ob_setBlock objSet_cells obMap_map obClock_map isMapI_map keyI_mk findI_nil findI_cons lookRes_some lookRes_none lookRes_some' lookRes_none' setBlock_alloc mapPut

/-! ### the closures that put -/
def cloV (sb ab fb : Nat) : Value := .func (.func 22) #[] #[.pointer (some ⟨sb, 0, none⟩), .pointer (some ⟨ab, 0, none⟩), .pointer (some ⟨fb, 0, none⟩)]
def E70 (sb : Nat) : Enc (Nat × Nat) 1 := ⟨fun a => [cloV sb a.1 a.2], fun _ => rfl, fun a u hu => by simp at hu; subst hu; rfl⟩
theorem info70 : (Try.prog.info? 70).map (fun i => (i.zero, i.size, i.bytes)) = some (some .nilFunc, 1, 8) := by kernel_rfl
def b32 (sp : Nat) : Obj := .cells #[.pointer (some ⟨sp, 0, none⟩)] 32 (0, 0)
def b66 (f p : Nat) : Obj := .cells #[.int .i64 (f : Int), .int .i64 (p : Int)] 66 (0, 0)
def b3 (f : Nat) : Obj := .cells #[.int .i64 (f : Int)] 3 (0, 0)
def eT (f : Nat) : EN := ⟨true, false, true, f⟩
theorem okE_T {f : Nat} (h : f < 256) : okE (eT f) = true := by unfold okE eT; simp; exact h
theorem en22 (args : Array Value) (w : World) : (callFunc 22 args).run Try.prog w = .ok (.enter 22 args) w := by go_simp
set_option maxRecDepth 100000 in
set_option maxHeartbeats 800000 in
theorem sPut1 (w : World) (m bd g n r sp sb ab fb : Nat) (M : Nat → Nat → EN) (hM : MemE w m g n M) (fr pl f : Nat) (hs : ob w sp = some (spO m bd r)) (h1 : ob w sb = some (b32 sp)) (h2 : ob w ab = some (b66 fr pl)) (h3 : ob w fb = some (b3 f)) (hfr : fr < n) (hpl : pl < 16) (hf : f < 256) :
    Calls Try.prog 22 #[.pointer (some ⟨sb, 0, none⟩), .pointer (some ⟨ab, 0, none⟩), .pointer (some ⟨fb, 0, none⟩)] w fun o w' => o = .returned (.int .i64 0) ∧ MemE w' m g n (updE M fr pl (eT f)) ∧ Keep [g] w w' := by
  have a0 : w.cell? ⟨sb, 0, none⟩ = some (.pointer (some ⟨sp, 0, none⟩)) := cell_of_ob h1 0
  have s0 : w.cell? ⟨sp, 0, none⟩ = some (.pointer (some ⟨m, 0, none⟩)) := cell_of_ob hs 0
  have c0 : w.cell? ⟨ab, 0, none⟩ = some (.int .i64 (fr : Int)) := cell_of_ob h2 0
  have c1 : w.cell? ⟨ab, 1, none⟩ = some (.int .i64 (pl : Int)) := cell_of_ob h2 1
  have d0 : w.cell? ⟨fb, 0, none⟩ = some (.int .i64 (f : Int)) := cell_of_ob h3 0
  have l1 := ob_lt h1
  have l2 := ob_lt h2
  have l3 := ob_lt h3
  have l4 := ob_lt hs
  have HM := Lib.hid hM
  clear hM h1 h2 h3 hs
  go_enter Try.func22, Try.ntmps22
  go_wp2_with fail
  go_still_tail 10, (by kernel_rfl)
  have HM2 := Lib.hid (HM.out.keep ((Keep.refl [] w).drew) (by simp) (by simp))
  have HK : Hid (Keep [g] w w.drew) := Lib.hid ((Keep.refl _ w).drew)
  clear a0 s0 c0 c1 d0 l1 l2 l3 l4 HM
  change wpList _ _ _ _ _ w.drew
  generalize w.drew = w2 at *
  go_wp2_with fail
  refine (pPut w2 m g n M HM2.out fr pl hfr hpl (eT f) (okE_T hf)).mono ?_
  rintro _ w3 ⟨rfl, hM3, hK3⟩
  have HH := Lib.hid (And.intro hM3 (HK.out.trans hK3))
  clear hM3 hK3
  go_wp2_with fail
  go_ret
  exact ⟨rfl, HH.out⟩
def no70 : Obj → Bool
  | .cells _ t _ => t != 70
  | _ => true
theorem MQ.row70 {w0 w w' : World} {bd m g n R : Nat} {M : Nat → Nat → EN} {H F : List Nat} {P : List (Nat × Obj)} {lv : Value} {ll : List Nat} (h : MQ w0 w bd m g n R M H F P lv ll) (hP : ∀ x ∈ P, no70 x.2 = true) {S : List Nat} (k : Keep S w w') (hS : ∀ b ∈ S, w0.heap.size ≤ b ∧ ∃ cs, ob w b = some (.cells cs 70 (0, 0))) : MQ w0 w' bd m g n R M H F P lv ll := by
  obtain ⟨L, F', h1, h2, h3, h4, h5⟩ := h.ex
  have hm : m ∉ S := fun hm => by
    obtain ⟨_, cs, e⟩ := hS m hm
    exact h.me.mne e (by decide) rfl
  have hg : g ∉ S := fun hm => by
    obtain ⟨_, cs, e⟩ := hS g hm
    exact h.me.gne e (by decide) rfl
  refine ⟨h.me.keep k hm hg, h.lr.keep k (fun b hb hm => ?_), h.kp.andThen k (fun x hx => .inr (hS x hx).1), L, F', h1.keep k (fun x hx hm => ?_), h2, h3, fun x hx => ⟨k.kp (h4 x hx).1 (fun hm => ?_), (h4 x hx).2⟩, h5⟩
  · obtain ⟨_, cs, e⟩ := hS b hm
    obtain ⟨cs', e'⟩ := row_ob h.lr hb
    rw [e] at e'
    simp at e'
  · obtain ⟨_, cs, e⟩ := hS x hm
    have := h1.kind hx
    rw [ob_kind e rfl rfl] at this
    cases this
  · obtain ⟨_, cs, e⟩ := hS x.1 hm
    have := hP x hx
    rw [(h4 x hx).1] at e
    cases e2 : x.2 with
    | cells c t f =>
      rw [e2] at this e
      simp only [Option.some.injEq, Obj.cells.injEq] at e
      rw [e.2.1] at this
      simp [no70] at this
    | map _ _ => rw [e2] at e; simp at e
    | _ => rw [e2] at e; simp at e
theorem MQ.push70 {w0 w : World} {bd m g n R : Nat} {M : Nat → Nat → EN} {H F : List Nat} {P : List (Nat × Obj)} {lv : Value} {ll : List Nat} (h : MQ w0 w bd m g n R M H F P lv ll) (hP : ∀ x ∈ P, no70 x.2 = true) {sb : Nat} {pv : Value} {bs : List (Nat × Nat)} (hr : RowE (E70 sb) 70 w w0.heap.size pv bs) (x : Nat × Nat) (hl : bs.length ≤ 3000) :
    ∃ va vc w2, (∀ ty, (Builtin.append_ #[67, 67] ty #[pv, .slice (some ⟨w.heap.size, 0, none⟩) 1 1]).run Try.prog (w.alloc (.cells #[cloV sb x.1 x.2] 70)) = .ok (.slice va (bs.length + 1) vc) w2) ∧ MQ w0 w2 bd m g n R M H F P lv ll ∧ RowE (E70 sb) 70 w2 w0.heap.size (.slice va (bs.length + 1) vc) (bs ++ [x]) := by
  have kA : Keep [] w (w.alloc (.cells #[cloV sb x.1 x.2] 70)) := (Keep.refl _ _).alloc _
  have hsz := h.kp.size
  have hr1 := hr.keep kA (by simp)
  obtain ⟨va, vc, w2, g1, g2, g3, g4⟩ := hr1.push (P := Try.prog) Try.underlying67 info70 rfl (by omega) x (b := w.heap.size) (al_new w (.cells #[cloV sb x.1 x.2] 70) rfl) 1 (by omega) (by omega) (by simp; omega)
  refine ⟨va, vc, w2, g1, (h.new kA).row70 hP g3 (fun b hb => ?_), g2⟩
  simp only [Option.mem_toList] at hb
  exact ⟨ownBlock_ge hr1 hb, row_ob hr1 hb⟩
theorem MQ.know {w0 w : World} {bd m g n R : Nat} {M : Nat → Nat → EN} {H F : List Nat} {P : List (Nat × Obj)} {lv : Value} {ll : List Nat} (h : MQ w0 w bd m g n R M H F P lv ll) {b : Nat} {cs : Array Value} {t : TypeId} {f : Nat × Nat} (hb : ob w b = some (.cells cs t f)) (h1 : (t == 55) = false) (h3 : (t == 3) = false) (h51 : t ≠ 51) (h107 : t ≠ 107) : MQ w0 w bd m g n R M H F (P ++ [(b, .cells cs t f)]) lv ll := by
  obtain ⟨L, F', g1, g2, g3, g4, g5⟩ := h.ex
  refine ⟨h.me, h.lr, h.kp, L, F', g1, g2, g3, fun x hx => ?_, g5⟩
  rcases List.mem_append.1 hx with hx | hx
  · exact g4 x hx
  · simp only [List.mem_singleton] at hx
    subst hx
    refine ⟨hb, g1.not (ob_kind hb h1 h3), h.me.gne hb h107, h.me.mne hb h51, fun e => ?_⟩
    obtain ⟨cs', e'⟩ := row_ob h.lr e
    simp only at e'
    rw [hb] at e'
    simp only [Option.some.injEq, Obj.cells.injEq] at e'
    rw [e'.2.1] at h3
    simp at h3
theorem MQ.knowRow {w0 w : World} {bd m g n R : Nat} {M : Nat → Nat → EN} {H F : List Nat} {P : List (Nat × Obj)} {lv : Value} {ll : List Nat} (h : MQ w0 w bd m g n R M H F P lv ll) {sb B : Nat} {pv : Value} {bs : List (Nat × Nat)} (hr : RowE (E70 sb) 70 w B pv bs) :
    ∃ Pr, MQ w0 w bd m g n R M H F (P ++ Pr) lv ll ∧ (∀ x ∈ Pr, ∃ cs, x.2 = .cells cs 70 (0, 0)) ∧ ∀ w', (∀ x ∈ Pr, ob w' x.1 = some x.2) → RowE (E70 sb) 70 w' B pv bs := by
  have hr0 := hr
  obtain ⟨hl, h2 | ⟨gb, cap, cur, rfl, hb, hg, rr⟩⟩ := hr
  · exact ⟨[], (by simpa using h), (fun x hx => by cases hx), fun w' _ => ⟨hl, .inl h2⟩⟩
  · exact ⟨[(gb, .cells cur 70 (0, 0))], h.know hg rfl rfl (by decide) (by decide), (fun x hx => by simp at hx; subst hx; exact ⟨cur, rfl⟩), fun w' hw => ⟨hl, .inr ⟨gb, cap, cur, rfl, hb, hw (gb, .cells cur 70 (0, 0)) (by simp), rr⟩⟩⟩
/-! ### Map, plainly -/
def applyPs (M : Nat → Nat → EN) : List (Nat × Nat × Nat) → Nat → Nat → EN
  | [] => M
  | x :: l => applyPs (updE M x.1 x.2.1 (eT x.2.2)) l
theorem applyPs_snoc (M : Nat → Nat → EN) (l : List (Nat × Nat × Nat)) (x : Nat × Nat × Nat) : applyPs M (l ++ [x]) = updE (applyPs M l) x.1 x.2.1 (eT x.2.2) := by
  induction l generalizing M with
  | nil => rfl
  | cons y l ih => exact ih _
/-- what is planned, of tables down to a level -/
structure PL (N : Nat) (M : Nat → Nat → EN) (H : List Nat) (lv : LV) (r pg l : Nat) (ps : List (Nat × Nat × Nat)) (lf : Nat) (H' : List Nat) (lv' : LV) : Prop where
  sp : Sp (applyPs M ps) r lv'
  mv : Mv H M lv H' (applyPs M ps) lv'
  zs : Zs (applyPs M ps) H'
  fr : frP (applyPs M ps) r pg l = lf
  vd : ∀ j, j < l → (atP (applyPs M ps) r pg j).v = true
  no : (atP (applyPs M ps) r pg l).v = false
  ok : ∀ x ∈ ps, x.1 < N ∧ x.2.1 < 16 ∧ x.2.2 < 256
theorem frP_upd {M : Nat → Nat → EN} {r : Nat} {lv : LV} (h : Sp M r lv) (pg l : Nat) (hl : l < 3) (hv : ∀ j, j < l → (atP M r pg j).v = true) (e : EN) : ∀ j, j ≤ l → frP (updE M (frP M r pg l) (plc pg l) e) r pg j = frP M r pg j
  | 0, _ => rfl
  | j + 1, hj => by
    have ih := frP_upd h pg l hl hv e j (by omega)
    show (updE M (frP M r pg l) (plc pg l) e (frP (updE M (frP M r pg l) (plc pg l) e) r pg j) (plc pg j)).f = _
    rw [ih, updE_ne]
    · rfl
    · intro x
      have h1 := h.path pg j (by omega) (fun i hi => hv i (by omega))
      have h2 := h.path pg l hl hv
      rw [x.1, h2] at h1
      simp at h1; omega
theorem atP_upd {M : Nat → Nat → EN} {r : Nat} {lv : LV} (h : Sp M r lv) (pg l : Nat) (hl : l < 3) (hv : ∀ j, j < l → (atP M r pg j).v = true) (e : EN) : (∀ j, j < l → atP (updE M (frP M r pg l) (plc pg l) e) r pg j = atP M r pg j) ∧ atP (updE M (frP M r pg l) (plc pg l) e) r pg l = e := by
  constructor
  · intro j hj
    unfold atP
    rw [frP_upd h pg l hl hv e j (by omega), updE_ne]
    intro x
    have h1 := h.path pg j (by omega) (fun i hi => hv i (by omega))
    have h2 := h.path pg l hl hv
    rw [x.1, h2] at h1
    simp at h1; omega
  · unfold atP
    rw [frP_upd h pg l hl hv e l (Nat.le_refl _), updE_same]
section
variable {N : Nat} {M : Nat → Nat → EN} {H : List Nat} {lv : LV} {r pg l : Nat} {ps : List (Nat × Nat × Nat)} {lf : Nat} {H' : List Nat} {lv' : LV}
theorem PL.lvl (h : PL N M H lv r pg l ps lf H' lv') (hl : l < 3) : lv' lf = some l := by
  rw [← h.fr]; exact h.sp.path pg l hl h.vd
theorem PL.step (h : PL N M H lv r pg l ps lf H' lv') (hl : l < 2) {f : Nat} (hf : f ∉ H') (hN : N ≤ 256) (hH : ∀ x ∈ H', x < N) (hfN : f < N) : PL N M H lv r pg (l + 1) (ps ++ [(lf, plc pg l, f)]) f (H' ++ [f]) (lvU lv' f (some (l + 1))) := by
  have h1 := h.lvl (by omega)
  have hno : lv' f = none := by
    cases e : lv' f with
    | none => rfl
    | some x => exact absurd (h.mv.own f (by rw [e]; simp)) hf
  have hzf : ∀ p, p < 16 → applyPs M ps f p = eZ := fun p hp => h.zs f hf p hp
  have hnv : (applyPs M ps lf (plc pg l)).v = false := by rw [← h.fr]; exact h.no
  have hsp := h.sp.link h1 hl (plc_lt pg l) hnv hno (fun p hp => by rw [hzf p hp]; rfl)
  obtain ⟨u1, u2⟩ := atP_upd h.sp pg l (by omega) h.vd (eT f)
  have ufr : frP (updE (applyPs M ps) lf (plc pg l) (eT f)) r pg (l + 1) = f := by
    show (atP (updE (applyPs M ps) lf (plc pg l) (eT f)) r pg l).f = f
    rw [h.fr] at u2
    rw [u2]; rfl
  rw [h.fr] at u1 u2
  refine ⟨?_, ?_, ?_, ?_, ?_, ?_, ?_⟩
  · rw [applyPs_snoc]; exact hsp
  · rw [applyPs_snoc]; exact h.mv.trans (Mv.link h.mv.own (by rw [h1]; simp) hf _ _)
  · rw [applyPs_snoc]
    intro g hg p hp
    have hg1 : g ∉ H' := fun hm => hg (by simp [hm])
    have hg2 : g ≠ lf := fun e => hg1 (e ▸ h.mv.own lf (by rw [h1]; simp))
    rw [updE_ne _ _ _ _ (fun x => hg2 x.1)]
    exact h.zs g hg1 p hp
  · rw [applyPs_snoc]; exact ufr
  · rw [applyPs_snoc]
    intro j hj
    by_cases e : j = l
    · subst e; rw [u2]; rfl
    · rw [u1 j (by omega)]; exact h.vd j (by omega)
  · rw [applyPs_snoc]
    show (updE (applyPs M ps) lf (plc pg l) (eT f) (frP (updE (applyPs M ps) lf (plc pg l) (eT f)) r pg (l + 1)) (plc pg (l + 1))).v = false
    rw [ufr, updE_ne _ _ _ _ (fun x => by rw [← x.1, hno] at h1; cases h1), hzf _ (plc_lt _ _)]
    rfl
  · intro x hx
    rcases List.mem_append.1 hx with hx | hx
    · exact h.ok x hx
    · simp at hx
      subst hx
      exact ⟨hH lf (h.mv.own lf (by rw [h1]; simp)), plc_lt _ _, by show f < 256; omega⟩
theorem PL.last (h : PL N M H lv r pg 2 ps lf H' lv') (wr : Bool) {fr : Nat} :
    Sp (updE (applyPs M ps) lf (plc pg 2) ⟨true, wr, false, fr⟩) r lv' ∧ Mv H M lv H' (updE (applyPs M ps) lf (plc pg 2) ⟨true, wr, false, fr⟩) lv' ∧ Zs (updE (applyPs M ps) lf (plc pg 2) ⟨true, wr, false, fr⟩) H' ∧ fE (updE (applyPs M ps) lf (plc pg 2) ⟨true, wr, false, fr⟩) r pg = ⟨true, wr, false, fr⟩ := by
  have h1 := h.lvl (by omega)
  obtain ⟨u1, u2⟩ := atP_upd h.sp pg 2 (by omega) h.vd ⟨true, wr, false, fr⟩
  rw [h.fr] at u1 u2
  refine ⟨h.sp.leaf h1 (plc_lt _ _) _ (fun _ => rfl), h.mv.trans (Mv.leaf h.mv.own (by rw [h1]; simp) _ _), fun g hg p hp => ?_, ?_⟩
  · have hg2 : g ≠ lf := fun e => hg (e ▸ h.mv.own lf (by rw [h1]; simp))
    rw [updE_ne _ _ _ _ (fun x => hg2 x.1)]
    exact h.zs g hg p hp
  · rw [fE_yes (fun j hj => ?_), u2]
    by_cases e : j = 2
    · subst e; rw [u2]
    · rw [u1 j (by omega)]; exact h.vd j (by omega)
theorem PL.init (hS : Sp M r lv) (hz : Zs M H) (hown : ∀ f, lv f ≠ none → f ∈ H) {k : Nat} (hv : ∀ j, j < k → (atP M r pg j).v = true) (hn : (atP M r pg k).v = false) : PL N M H lv r pg k [] (frP M r pg k) H lv :=
  ⟨hS, Mv.refl hown, hz, rfl, hv, hn, fun x hx => by cases hx⟩
end
end Go.Proofs.Ytehmjjfgefopdaa
