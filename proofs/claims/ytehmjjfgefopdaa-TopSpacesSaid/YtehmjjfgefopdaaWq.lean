import Derived.Test.YtehmjjfgefopdaaWp
namespace Go.Proofs.Ytehmjjfgefopdaa
open Go.RowKit
set_option linter.unusedSimpArgs false
set_option linter.unusedVariables false
attribute [local go_sem] ob_alloc ob_drew ob_drewN ob_setCell ob_setBlock objSet_cells obMap_map obClock_map isMapI_map keyI_mk findI_nil findI_cons lookRes_some lookRes_none lookRes_some' lookRes_none' setBlock_alloc mapPut

/-! ### tables that are made -/
def E3 : Enc Nat 1 := ⟨fun a => [vN a], fun _ => rfl, fun a u hu => by simp at hu; subst hu; rfl⟩
theorem info3 : (Try.prog.info? 3).map (fun i => (i.zero, i.size, i.bytes)) = some (some (.int .i64 0), 1, 8) := by kernel_rfl
/-- memory, giver, blocks that stay, and a row of the call's own -/
structure MQ (w0 w : World) (bd m g n R : Nat) (M : Nat → Nat → EN) (H F : List Nat) (P : List (Nat × Obj)) (lv : Value) (ll : List Nat) : Prop where
  me : MemE w m g n M
  lr : RowE E3 3 w w0.heap.size lv ll
  kp : Keep (g :: F) w0 w
  ex : ∃ L F', BudAt w bd m L H F' ∧ BS n R L H ∧ GF w0 F F' ∧ (∀ x ∈ P, ob w x.1 = some x.2 ∧ x.1 ∉ F' ∧ x.1 ≠ g ∧ x.1 ≠ m ∧ lv.ownBlock ≠ some x.1) ∧ (∀ b, lv.ownBlock = some b → b ∉ F')
section
variable {w0 w w' : World} {bd m g n R : Nat} {M M' : Nat → Nat → EN} {H H' F : List Nat} {P : List (Nat × Obj)} {lv : Value} {ll : List Nat}
theorem MQ.row3 (h : MQ w0 w bd m g n R M H F P lv ll) {b : Nat} (hb : lv.ownBlock = some b) : b ≠ g ∧ b ≠ m ∧ b < w.heap.size := by
  obtain ⟨cs, h1⟩ := row_ob h.lr hb
  exact ⟨h.me.gne h1 (by decide), h.me.mne h1 (by decide), ob_lt h1⟩
theorem MQ.new (h : MQ w0 w bd m g n R M H F P lv ll) (k : Keep [] w w') : MQ w0 w' bd m g n R M H F P lv ll := by
  obtain ⟨L, F', h1, h2, h3, h4, h5⟩ := h.ex
  exact ⟨h.me.keep k (by simp) (by simp), h.lr.keep k (by simp), h.kp.trans (k.mono (by simp)), L, F', h1.new k, h2, h3, fun x hx => ⟨k.kp (h4 x hx).1 (by simp), (h4 x hx).2⟩, h5⟩
/-- a new block is known -/
theorem MQ.add (h : MQ w0 w bd m g n R M H F P lv ll) {b : Nat} {o : Obj} (hb : w.heap.size ≤ b) (k : Keep [] w w') (ho : ob w' b = some o) : MQ w0 w' bd m g n R M H F ((b, o) :: P) lv ll := by
  have h' := h.new k
  obtain ⟨L, F', h1, h2, h3, h4, h5⟩ := h.ex
  refine ⟨h'.me, h'.lr, h'.kp, L, F', h1.new k, h2, h3, fun x hx => ?_, h5⟩
  rcases List.mem_cons.1 hx with rfl | hx
  · refine ⟨ho, fun hm => ?_, fun e => ?_, fun e => ?_, fun e => ?_⟩
    · have := h1.lt hm; omega
    · have := ob_lt h.me.1.2.1; simp only at e; omega
    · have := ob_lt h.me.1.1; simp only at e; omega
    · have := (h.row3 e).2.2; simp only at this; omega
  · exact ⟨k.kp (h4 x hx).1 (by simp), (h4 x hx).2⟩
theorem MQ.drop {x : Nat × Obj} (h : MQ w0 w bd m g n R M H F (x :: P) lv ll) : MQ w0 w bd m g n R M H F P lv ll := by
  obtain ⟨L, F', h1, h2, h3, h4, h5⟩ := h.ex
  exact ⟨h.me, h.lr, h.kp, L, F', h1, h2, h3, fun y hy => h4 y (List.mem_cons_of_mem _ hy), h5⟩
theorem MQ.sub {P' : List (Nat × Obj)} (h : MQ w0 w bd m g n R M H F P lv ll) (hs : ∀ x ∈ P', x ∈ P) : MQ w0 w bd m g n R M H F P' lv ll := by
  obtain ⟨L, F', h1, h2, h3, h4, h5⟩ := h.ex
  exact ⟨h.me, h.lr, h.kp, L, F', h1, h2, h3, fun y hy => h4 y (hs y hy), h5⟩
theorem MQ.kn (h : MQ w0 w bd m g n R M H F P lv ll) {x : Nat × Obj} (hx : x ∈ P) : ob w x.1 = some x.2 := by
  obtain ⟨L, F', h1, h2, h3, h4, h5⟩ := h.ex
  exact (h4 x hx).1
/-- one of the known is written (it is none of the others) -/
theorem MQ.set {b : Nat} {o o' : Obj} (h : MQ w0 w bd m g n R M H F ((b, o) :: P) lv ll) (hP : ∀ x ∈ P, x.1 ≠ b) (hn : w0.heap.size ≤ b) (k : Keep [b] w w') (ho : ob w' b = some o') : MQ w0 w' bd m g n R M H F ((b, o') :: P) lv ll := by
  obtain ⟨L, F', h1, h2, h3, h4, h5⟩ := h.ex
  obtain ⟨p1, p2, p3, p4, p5⟩ := h4 (b, o) (.head _)
  refine ⟨h.me.keep k (by simpa using p4.symm) (by simpa using p3.symm), h.lr.keep k (fun x hx hm => p5 (by simp at hm; subst hm; exact hx)), h.kp.andThen k (fun x hx => .inr (by simp at hx; omega)), L, F', h1.keep k (fun x hx hm => p2 (by simp at hm; subst hm; exact hx)), h2, h3, fun x hx => ?_, h5⟩
  rcases List.mem_cons.1 hx with rfl | hx
  · exact ⟨ho, p2, p3, p4, p5⟩
  · exact ⟨k.kp (h4 x (List.mem_cons_of_mem _ hx)).1 (by simpa using hP x hx), (h4 x (List.mem_cons_of_mem _ hx)).2⟩
/-- memory alone was written -/
theorem MQ.mem (h : MQ w0 w bd m g n R M H F P lv ll) (k : Keep [g] w w') (hM : MemE w' m g n M') : MQ w0 w' bd m g n R M' H F P lv ll := by
  obtain ⟨L, F', h1, h2, h3, h4, h5⟩ := h.ex
  have hg : g ∉ F' := h1.not h.me.gkind
  exact ⟨hM, h.lr.keep k (fun b hb hm => (h.row3 hb).1 (by simpa using hm)), h.kp.trans (k.mono (by simp)), L, F', h1.keep k (fun b hb hm => hg (by simp at hm; subst hm; exact hb)), h2, h3, fun x hx => ⟨k.kp (h4 x hx).1 (by simpa using (h4 x hx).2.2.1), (h4 x hx).2⟩, h5⟩
/-- a call of the giver -/
theorem MQ.call (h : MQ w0 w bd m g n R M H F P lv ll) : ∃ L F', BudAt w bd m L H F' ∧ BS n R L H ∧ ∀ w' M' H', MB w w' bd m g n R M' H' F' → MQ w0 w' bd m g n R M' H' F P lv ll := by
  obtain ⟨L, F', h1, h2, h3, h4, h5⟩ := h.ex
  refine ⟨L, F', h1, h2, fun w' M' H' hb => ?_⟩
  obtain ⟨L', ⟨hM, F'', b1, b2, b3⟩, hS⟩ := hb.ex
  have hnot : ∀ b, b ∉ F' → b ≠ g → b ∉ g :: F' := fun b x1 x2 hm => by
    rcases List.mem_cons.1 hm with e | e
    · exact x2 e
    · exact x1 e
  refine ⟨hM, h.lr.keep b2 (fun b hb => hnot b (h5 b hb) (h.row3 hb).1), h.kp.andThen b2 (fun x hx => ?_), L', F'', b1, hS, h3.trans h.kp.size b3, fun x hx => ⟨b2.kp (h4 x hx).1 (hnot _ (h4 x hx).2.1 (h4 x hx).2.2.1), b3.not (h4 x hx).2.1 (ob_lt (h4 x hx).1), (h4 x hx).2.2⟩, fun b hb => b3.not (h5 b hb) (h.row3 hb).2.2⟩
  rcases List.mem_cons.1 hx with rfl | hx
  · exact .inl (.head _)
  · rcases h3 x hx with e | e
    · exact .inl (List.mem_cons_of_mem _ e)
    · exact .inr e
theorem MQ.toMB (h : MQ w0 w bd m g n R M H F P lv ll) : MB w0 w bd m g n R M H F := by
  obtain ⟨L, F', h1, h2, h3, h4, h5⟩ := h.ex
  exact ⟨L, ⟨h.me, F', h1, h.kp, h3⟩, h2⟩
theorem MQ.init {L : LS} (hM : MemE w m g n M) (hB : BudAt w bd m L H F) (hS : BS n R L H) (hP : ∀ x ∈ P, ob w x.1 = some x.2 ∧ kindB (some x.2) = false ∧ x.1 ≠ g ∧ x.1 ≠ m) : MQ w w bd m g n R M H F P (.slice none 0 0) [] :=
  ⟨hM, RowE.nil _ _, Keep.refl _ _, L, F, hB, hS, GF.refl _ _, fun x hx => ⟨(hP x hx).1, hB.not (by rw [(hP x hx).1]; exact (hP x hx).2.1), (hP x hx).2.2.1, (hP x hx).2.2.2, by simp [Value.ownBlock]⟩, fun b hb => by cases hb⟩
theorem BS.room {n R : Nat} {L : LS} {H : List Nat} (h : BS n R L H) (hl : H.length + R < n) : 0 < left L := by have := h.lf; omega
/-- one more in the row of its own -/
theorem MQ.push (h : MQ w0 w bd m g n R M H F P lv ll) (x : Nat) (hl : ll.length ≤ 3000) :
    ∃ va vc w2, (∀ ty, (Builtin.append_ #[22, 22] ty #[lv, .slice (some ⟨w.heap.size, 0, none⟩) 1 1]).run Try.prog (w.alloc (.cells #[.int .i64 (x : Int)] 3)) = .ok (.slice va (ll.length + 1) vc) w2) ∧ MQ w0 w2 bd m g n R M H F P (.slice va (ll.length + 1) vc) (ll ++ [x]) := by
  have kA : Keep [] w (w.alloc (.cells #[.int .i64 (x : Int)] 3)) := (Keep.refl _ _).alloc _
  have hsz := h.kp.size
  have h1 := h.new kA
  obtain ⟨va, vc, w2, g1, g2, g3, g4⟩ := h1.lr.push (P := Try.prog) Try.underlying22 info3 rfl (by omega) x (b := w.heap.size) (al_new w (.cells #[.int .i64 (x : Int)] 3) rfl) 1 (by omega) (by omega) (by simp; omega)
  obtain ⟨L, F', b1, b2, b3, b4, b5⟩ := h1.ex
  have hown : ∀ b, (Value.slice va (ll.length + 1) vc).ownBlock = some b → lv.ownBlock = some b ∨ b = (w.alloc (.cells #[.int .i64 (x : Int)] 3)).heap.size := fun b hb => by
    rcases g4 with e | e
    · exact .inl (by rw [← e]; exact hb)
    · right; rw [hb] at e; cases e; rfl
  have hnF : ∀ b, b ∈ F' → b ∉ lv.ownBlock.toList := fun b hb hm => by
    simp only [Option.mem_toList] at hm
    exact b5 b hm hb
  refine ⟨va, vc, w2, g1, h1.me.keep g3 (fun hm => ?_) (fun hm => ?_), g2, h1.kp.andThen g3 (fun b hb => ?_), L, F', b1.keep g3 hnF, b2, b3, fun y hy => ⟨g3.kp (b4 y hy).1 (fun hm => ?_), (b4 y hy).2.1, (b4 y hy).2.2.1, (b4 y hy).2.2.2.1, fun e => ?_⟩, fun b hb hm => ?_⟩
  · simp only [Option.mem_toList] at hm
    exact (h1.row3 hm).2.1 rfl
  · simp only [Option.mem_toList] at hm
    exact (h1.row3 hm).1 rfl
  · simp only [Option.mem_toList] at hb
    exact .inr (ownBlock_ge h.lr hb)
  · simp only [Option.mem_toList] at hm
    exact (b4 y hy).2.2.2.2 hm
  · rcases hown _ e with e2 | e2
    · exact (b4 y hy).2.2.2.2 e2
    · have := ob_lt (b4 y hy).1; omega
  · rcases hown b hb with e2 | e2
    · exact b5 b e2 hm
    · have := b1.lt hm; omega
end
def spO (m bd r : Nat) : Obj := .cells #[.pointer (some ⟨m, 0, none⟩), .pointer (some ⟨bd, 0, none⟩), .int .i64 (r : Int)] 60 (0, 0)
def mdO (sp : Nat) (lv : Value) : Obj := .cells #[.pointer (some ⟨sp, 0, none⟩), lv] 64 (0, 0)
def TabP (w0 : World) (bd m g n R : Nat) (M : Nat → Nat → EN) (H F : List Nat) (P : List (Nat × Obj)) (sp xm : Nat) : Ending → World → Prop := fun o w' =>
  ∃ (f : Nat) (lv : Value) (ll : List Nat), o = .returned (.tuple #[.int .i64 (f : Int), .int .i64 0]) ∧ MQ w0 w' bd m g n R M (H ++ [f]) F ((xm, mdO sp lv) :: P) lv ll ∧ f ∉ H ∧ R ≤ f ∧ f < n ∧ ll.length ≤ H.length + 1
set_option maxRecDepth 100000 in
set_option maxHeartbeats 1000000 in
theorem sTable (w0 w : World) (bd m g n R r sp xm : Nat) (M : Nat → Nat → EN) (H F : List Nat) (P : List (Nat × Obj)) (lv : Value) (ll : List Nat) (hQ : MQ w0 w bd m g n R M H F ((xm, mdO sp lv) :: P) lv ll) (hP : ∀ x ∈ P, x.1 ≠ xm) (hsp : (sp, spO m bd r) ∈ P) (hx : w0.heap.size ≤ xm) (hl : H.length + R < n) (hll : ll.length ≤ H.length) (hH : H.length ≤ 1000) :
    Calls Try.prog 21 #[.pointer (some ⟨xm, 0, none⟩)] w (TabP w0 bd m g n R M H F P sp xm) := by
  have ho : ob w xm = some (mdO sp lv) := hQ.kn (.head _)
  have hs : ob w sp = some (spO m bd r) := hQ.kn (x := (sp, spO m bd r)) (List.mem_cons_of_mem _ hsp)
  have r0 : w.cell? ⟨xm, 0, none⟩ = some (.pointer (some ⟨sp, 0, none⟩)) := cell_of_ob ho 0
  have s1 : w.cell? ⟨sp, 1, none⟩ = some (.pointer (some ⟨bd, 0, none⟩)) := cell_of_ob hs 1
  have lx := ob_lt ho
  have ls := ob_lt hs
  have HQ := Lib.hid hQ
  obtain ⟨L, F', b1, b2, b3⟩ := hQ.call
  have HA := Lib.hid (bAlloc w bd m n R L H F' b1 b2 (b2.room hl))
  have HB3 := Lib.hid b3
  have HM := Lib.hid (And.intro hQ.me b1)
  clear hQ ho hs b1 b2 b3
  go_enter Try.func21, Try.ntmps21
  go_wp2_with fail
  refine HA.out.mono ?_
  rintro _ w2 ⟨f, L', rfl, hS2, hf1, hf2, hf3, F2, hB2, hK2, hG2⟩
  have HQ2 := Lib.hid (HB3.out w2 M (H ++ [f]) ⟨L', ⟨HM.out.1.keep hK2 (HM.out.2.not HM.out.1.mkind) (HM.out.2.not HM.out.1.gkind), F2, hB2, hK2.mono (fun b hb => List.mem_cons_of_mem _ hb), hG2⟩, hS2⟩)
  clear hS2 hB2 hK2 hG2 HB3 HM HA HQ r0 s1 lx ls
  have ho : ob w2 xm = some (mdO sp lv) := HQ2.out.kn (.head _)
  have r1 : w2.cell? ⟨xm, 1, none⟩ = some lv := cell_of_ob ho 1
  have lx := ob_lt ho
  obtain ⟨la, lc, rfl⟩ := HQ2.out.lr.slice
  obtain ⟨va, vc, w3, happ, hQ3⟩ := HQ2.out.push f (by omega)
  have HQ3 := Lib.hid hQ3
  have ho3 : ob w3 xm = some (mdO sp (.slice la ll.length lc)) := hQ3.kn (.head _)
  have q1 := free_of_ob ho3 1
  have r1' : w3.cell? ⟨xm, 1, none⟩ = some (.slice la ll.length lc) := cell_of_ob ho3 1
  have lx3 := ob_lt ho3
  clear hQ3 ho
  go_wp2_with (at_builtin; refine wpList_append_eq rfl _ _ _ rfl rfl rfl (happ _) ?_)
  go_ret2
  have kS : Keep [xm] w3 (w3.setCell ⟨xm, 1, none⟩ (.slice va (ll.length + 1) vc)) := (Keep.refl _ _).setCell (.inl (by simp)) _ _
  exact ⟨f, _, _, rfl, HQ3.out.set hP hx kS (st_same ho3), hf1, hf2, hf3, by simp; omega⟩
/-! ### Find -/
def fEI (M : Nat → Nat → EN) (r : Nat) (p : Int) : EN := if isB p then fE M r p.toNat else eZ
def WkX (w : World) (M : Nat → Nat → EN) (r : Nat) (p : Int) : Ending → World → Prop := fun o w' => Keep [] w w' ∧ ∃ (v : Value) (c : Int), o = .returned (.tuple #[(fEI M r p).val, v, .int .i64 c]) ∧ (c = 0 ↔ (fEI M r p).v = true)
theorem pWalkX (w : World) (m g n : Nat) (M : Nat → Nat → EN) (hM : MemE w m g n M) (r : Nat) (lv : LV) (hS : Sp M r lv) (hn : ∀ f, lv f ≠ none → f < n) (p : Int) :
    Calls Try.prog 13 #[.pointer (some ⟨m, 0, none⟩), .int .i64 (r : Int), .int .i64 p] w (WkX w M r p) := by
  cases hb : isB p with
  | false =>
    refine (pWalk_bad w m g n _ hM.1 r (hn r (by rw [(hS.rt r).2 rfl]; simp)) p hb).mono ?_
    rintro _ w' ⟨rfl, hk⟩
    have e : fEI M r p = eZ := by unfold fEI; rw [hb]; rfl
    exact ⟨hk, _, 1, by rw [e], by rw [e]; decide⟩
  | true =>
    have hp : 0 ≤ p ∧ p < 4096 := by simpa [isB] using hb
    obtain ⟨q, rfl⟩ : ∃ q : Nat, p = q := ⟨p.toNat, by omega⟩
    have e : fEI M r (q : Int) = fE M r q := by unfold fEI; rw [hb]; rfl
    refine (pWalk w m g n M hM r q (by omega) (fun k hk hv => hn _ (by rw [hS.path q k hk hv]; simp)) (fun k hk hv => hS.kind q k hk hv)).mono ?_
    rintro o w' ⟨hk, v, ⟨k, hk3, hv1, hv2, rfl, _⟩ | ⟨hv, rfl, _⟩⟩
    · refine ⟨hk, v, 10, by rw [e, fE_no hk3 hv2], ?_⟩
      rw [e, fE_no hk3 hv2]
      decide
    · refine ⟨hk, v, 0, by rw [e, fE_yes hv], ?_⟩
      rw [e, fE_yes hv, hv 2 (by omega)]
      simp
end Go.Proofs.Ytehmjjfgefopdaa
