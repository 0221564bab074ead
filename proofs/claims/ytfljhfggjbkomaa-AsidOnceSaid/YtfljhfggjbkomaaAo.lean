import Derived.Test.YtfljhfggjbkomaaAm
namespace Go.Proofs.Ytfljhfggjbkomaa
open Go.RowKit
set_option linter.unusedSimpArgs false
set_option linter.unusedVariables false
attribute [local go_sem] ob_alloc ob_drew ob_drewN ob_setCell ob_setBlock objSet_cells obMap_map obClock_map isMapI_map keyI_mk findI_nil findI_cons lookRes_some lookRes_none lookRes_some' lookRes_none' setBlock_alloc mapPut

/-! ### AsidOnce: the plain law -/
theorem lives_iff {os : List Int} {bs : List Bool} {a u : Int} : livesB os bs a u = true ↔ 1 ≤ a ∧ bs.getD (a - 1).toNat false = true ∧ os.getD (a - 1).toNat 0 = u := by
  unfold livesB givenF
  by_cases h : 1 ≤ a ∧ bs.getD (a - 1).toNat false = true
  · rw [if_pos h]
    simp [h.1]
    intro _
    simpa using h.2
  · rw [if_neg h]
    simp
    intro h1 h2
    exact absurd ⟨h1, by simpa using h2⟩ h

structure OnceInv (n : Nat) (os : List Int) (bs : List Bool) (lives told : List (Int × Int)) : Prop where
  ol : os.length = n
  bl : bs.length = n
  nd : (lives.map (·.1)).Nodup
  lv : ∀ t, t ∈ lives → livesB os bs t.1 t.2 = true
  cnt : lives.length = bs.count true
  td : ∀ t, t ∈ told → 1 ≤ t.1 ∧ t.2 ≤ os.getD (t.1 - 1).toNat 0

theorem OnceInv.start (n : Nat) : OnceInv n (List.replicate n 0) (List.replicate n false) [] [] :=
  ⟨by simp, by simp, by simp, by simp, by simp [List.count_replicate], by simp⟩

theorem bestK_none {os : List Int} {bs : List Bool} : ∀ {k : Nat}, bestK os bs k = none → ∀ j, j < k → bs.getD j false = true
  | 0, _, j, hj => by omega
  | k + 1, h, j, hj => by
    unfold bestK at h
    by_cases hb : bs.getD k false = true
    · rw [if_pos hb] at h
      by_cases e : j = k
      · subst e; exact hb
      · exact bestK_none h j (by omega)
    · rw [if_neg hb] at h
      split at h
      · cases h
      · split at h <;> cases h

theorem count_all : ∀ (bs : List Bool), (∀ j, j < bs.length → bs.getD j false = true) → bs.count true = bs.length
  | [], _ => rfl
  | b :: bs, h => by
    have h0 := h 0 (by simp)
    simp at h0
    subst h0
    have := count_all bs (fun j hj => by simpa using h (j + 1) (by simpa using hj))
    simp [this]

theorem OnceInv.take_none {n : Nat} {os : List Int} {bs : List Bool} {lives told : List (Int × Int)} (h : OnceInv n os bs lives told) (hb : bestK os bs n = none) : lives.length = n := by
  rw [h.cnt, count_all bs (fun j hj => bestK_none hb j (by rw [← h.bl]; exact hj)), h.bl]

theorem OnceInv.take_some {n : Nat} {os : List Int} {bs : List Bool} {lives told : List (Int × Int)} (h : OnceInv n os bs lives told) {j : Nat} (hb : bestK os bs n = some j) {y : Int} (hy : os.getD j 0 < y) :
    lives.length < n ∧ (∀ t, t ∈ told → ¬ (t.1 = (j : Int) + 1 ∧ t.2 = y)) ∧ (∀ t, t ∈ lives → ¬ t.1 = (j : Int) + 1) ∧ OnceInv n (os.set j y) (bs.set j true) (lives ++ [((j : Int) + 1, y)]) (told ++ [((j : Int) + 1, y)]) := by
  obtain ⟨hjn, hbj⟩ := bestK_lt hb
  have hj2 : j < bs.length := by rw [h.bl]; exact hjn
  have hj1 : j < os.length := by rw [h.ol]; exact hjn
  have hc := count_set_true bs j hj2 hbj
  have hle : (bs.set j true).count true ≤ (bs.set j true).length := List.count_le_length
  rw [List.length_set, h.bl] at hle
  have hnl : ∀ t, t ∈ lives → ¬ t.1 = (j : Int) + 1 := by
    intro t ht e
    have := (lives_iff.1 (h.lv t ht)).2.1
    rw [e, show ((j : Int) + 1 - 1).toNat = j by omega, hbj] at this
    cases this
  refine ⟨by rw [h.cnt]; omega, ?_, hnl, ⟨by simp [h.ol], by simp [h.bl], ?_, ?_, ?_, ?_⟩⟩
  · rintro t ht ⟨e1, e2⟩
    have := (h.td t ht).2
    rw [e1, show ((j : Int) + 1 - 1).toNat = j by omega] at this
    omega
  · rw [List.map_append, List.nodup_append]
    refine ⟨h.nd, by simp, fun a ha b hb2 => ?_⟩
    simp at hb2
    subst hb2
    obtain ⟨t, ht, rfl⟩ := List.mem_map.1 ha
    exact hnl t ht
  · intro t ht
    rcases List.mem_append.1 ht with ht | ht
    · have h1 := lives_iff.1 (h.lv t ht)
      have h2 := hnl t ht
      refine lives_iff.2 ⟨h1.1, ?_, ?_⟩
      · rw [getD_set, if_neg (by omega)]; exact h1.2.1
      · rw [getD_set, if_neg (by omega)]; exact h1.2.2
    · simp at ht
      subst ht
      refine lives_iff.2 ⟨by simp; omega, ?_, ?_⟩
      · simp only [show ((j : Int) + 1 - 1).toNat = j by omega]; rw [getD_set, if_pos ⟨rfl, hj2⟩]
      · simp only [show ((j : Int) + 1 - 1).toNat = j by omega]; rw [getD_set, if_pos ⟨rfl, hj1⟩]
  · rw [List.length_append, hc, h.cnt]; rfl
  · intro t ht
    rcases List.mem_append.1 ht with ht | ht
    · have h1 := h.td t ht
      refine ⟨h1.1, ?_⟩
      rw [getD_set]
      split
      · rename_i e; have := h1.2; rw [← e.1] at this; omega
      · exact h1.2
    · simp at ht
      subst ht
      refine ⟨by simp; omega, ?_⟩
      simp only [show ((j : Int) + 1 - 1).toNat = j by omega]
      rw [getD_set, if_pos ⟨rfl, hj1⟩]; omega

theorem OnceInv.back {n : Nat} {os : List Int} {bs : List Bool} {lives told : List (Int × Int)} (h : OnceInv n os bs lives told) {k : Nat} {t : Int × Int} (hk : lives[k]? = some t) :
    livesB os bs t.1 t.2 = true ∧ livesB os (bs.set (t.1 - 1).toNat false) t.1 t.2 = false ∧ OnceInv n os (bs.set (t.1 - 1).toNat false) (lives.take k ++ lives.drop (k + 1)) told := by
  have hlt := (List.getElem?_eq_some_iff.1 hk).1
  have ht := h.lv t (List.mem_of_getElem? hk)
  have h1 := lives_iff.1 ht
  have hb : (t.1 - 1).toNat < bs.length := by
    rcases Nat.lt_or_ge (t.1 - 1).toNat bs.length with a | a
    · exact a
    · have := h1.2.1; rw [List.getD, List.getElem?_eq_none a] at this; cases this
  have hsplit : lives = lives.take k ++ t :: lives.drop (k + 1) := by
    have e : lives.drop k = t :: lives.drop (k + 1) := by
      rw [List.drop_eq_getElem_cons hlt]
      rw [List.getElem?_eq_getElem hlt] at hk
      cases hk; rfl
    rw [← e, List.take_append_drop]
  have hnd := h.nd
  rw [hsplit, List.map_append, List.map_cons, List.nodup_append] at hnd
  obtain ⟨n1, n2, n3⟩ := hnd
  rw [List.nodup_cons] at n2
  have hne : ∀ u, u ∈ lives.take k ++ lives.drop (k + 1) → u.1 ≠ t.1 := by
    intro u hu e
    rcases List.mem_append.1 hu with hu | hu
    · exact n3 u.1 (List.mem_map.2 ⟨u, hu, rfl⟩) t.1 (by simp) e
    · exact n2.1 (List.mem_map.2 ⟨u, hu, e⟩)
  have hin : ∀ u, u ∈ lives.take k ++ lives.drop (k + 1) → u ∈ lives := by
    intro u hu
    rcases List.mem_append.1 hu with hu | hu
    · exact List.mem_of_mem_take hu
    · exact List.mem_of_mem_drop hu
  refine ⟨ht, ?_, ⟨h.ol, by simp [h.bl], ?_, ?_, ?_, h.td⟩⟩
  · cases hx : livesB os (bs.set (t.1 - 1).toNat false) t.1 t.2 with
    | false => rfl
    | true =>
      have := (lives_iff.1 hx).2.1
      rw [getD_set, if_pos ⟨rfl, hb⟩] at this
      cases this
  · rw [List.map_append, List.nodup_append]
    exact ⟨n1, n2.2, fun a ha b hb => n3 a ha b (List.mem_cons_of_mem _ hb)⟩
  · intro u hu
    have q := lives_iff.1 (h.lv u (hin u hu))
    have q2 := hne u hu
    refine lives_iff.2 ⟨q.1, ?_, q.2.2⟩
    rw [getD_set, if_neg (by omega)]
    exact q.2.1
  · have c1 := count_set_false bs _ h1.2.1
    have c2 := h.cnt
    have c3 := congrArg List.length hsplit
    simp only [List.length_append, List.length_cons] at c3 ⊢
    omega

/-! ### the walk's own blocks -/
theorem flatT_append (a b : List (Int × Int)) : flatT (a ++ b) = flatT a ++ flatT b := by simp [flatT]
theorem flatT_one (ts : List (Int × Int)) : ∀ u ∈ flatT ts, u.oneCell' = true := by
  intro u hu
  simp only [flatT, List.mem_flatMap] at hu
  obtain ⟨t, _, h⟩ := hu
  simp at h
  rcases h with rfl | rfl <;> rfl
theorem RowT.flat {w : World} {B g n cap : Nat} {ts : List (Int × Int)} (h : RowT w B (.slice (some ⟨g, 0, none⟩) n cap) ts) : n = ts.length ∧ ∀ (j : Nat) (u : Value), (flatT ts)[j]? = some u → w.cell? ⟨g, j, none⟩ = some u := by
  obtain ⟨hl, h | ⟨g', cap', cur, hv, hb, hg, hn, hm, hc, ht⟩⟩ := h
  · cases h.1
  · simp only [Value.slice.injEq, Option.some.injEq, Addr.mk.injEq, and_true] at hv
    obtain ⟨rfl, rfl, rfl⟩ := hv
    refine ⟨rfl, fun j u hj => ?_⟩
    rw [cell_of_ob (w := w) hg]
    rw [← ht, List.getElem?_take] at hj
    split at hj
    · simpa using hj
    · cases hj
theorem RowT.cat {w : World} {B : Nat} {v : Value} {ts : List (Int × Int)} (h : RowT w B v ts) (us : List (Int × Int)) (a : Addr) (c : Nat) (ha : ∀ (j : Nat) (u : Value), (flatT us)[j]? = some u → w.cell? (a.add j) = some u) (hn : ts.length + us.length ≤ 1000) (hB : B ≤ w.heap.size) :
    ∃ va vc w', (Builtin.append_ #[91, 91] 91 #[v, .slice (some a) us.length c]).run Try.prog w = .ok (.slice va (ts.length + us.length) vc) w' ∧ RowT w' B (.slice va (ts.length + us.length) vc) (ts ++ us) ∧ Keep v.ownBlock.toList w w' ∧ ((Value.slice va (ts.length + us.length) vc).ownBlock = v.ownBlock ∨ (Value.slice va (ts.length + us.length) vc).ownBlock = some w.heap.size) := by
  obtain ⟨i, hi, hz⟩ := Option.map_eq_some_iff.1 info93
  simp only [Prod.mk.injEq] at hz
  obtain ⟨h1, h2, h3⟩ := hz
  obtain ⟨v', w', r1, r2, r3, _, r5⟩ := run_append_own_at (w := w) B 91 91 93 i (.agg #[.int .i64 0, .int .i64 0]) 2 16 Try.underlying91 hi h1 h2 h3 rfl (by omega) v ts.length (flatT ts) h a us.length c (flatT us) (flatT_length us) ha (flatT_one us) (by unfold maxLen; omega) (by omega) hB
  obtain ⟨va, vc, rfl⟩ := owns_slice r2
  exact ⟨va, vc, w', r1, by unfold RowT; rw [List.length_append, flatT_append]; exact r2, Keep.ofGrown r3, r5⟩
theorem PoolAt.lt {w : World} {p : Nat} {L : List Nat} {os : List Int} {bs : List Bool} (h : PoolAt w p L os bs) : p < w.heap.size := by
  obtain ⟨_, _, _, _, _, _, _, _, h4, _⟩ := h; exact ob_lt h4
theorem PoolAt.len {w : World} {p : Nat} {L : List Nat} {os : List Int} {bs : List Bool} (h : PoolAt w p L os bs) : os.length = bs.length ∧ 1 ≤ os.length ∧ os.length ≤ 8 := by
  obtain ⟨_, _, _, _, _, _, _, _, _, _, _, h7, h8, h9⟩ := h; exact ⟨h7.same, h8, h9⟩

/-- a pool, the tags that live and that were told, and blocks of the walk's own -/
structure OP (W0 : World) (p : Nat) (K : List Nat) (kn : List (Nat × Obj)) (lv : Value) (ls : List (Int × Int)) (tv : Value) (ts : List (Int × Int)) (w : World) (os : List Int) (bs : List Bool) : Prop where
  pp : PoolAt w p K os bs
  pK : p ∉ K
  rl : RowT w W0.heap.size lv ls
  rt : RowT w W0.heap.size tv ts
  ow : ∀ x, x ∈ kn → ob w x.1 = some x.2 ∧ x.1 ∈ K
  kp : Keep [] W0 w
  k0 : ∀ x, x < W0.heap.size → x ∈ K
  kl : ∀ x, lv.ownBlock = some x → x ∈ K
  kt : ∀ x, tv.ownBlock = some x → x ∈ K
  ne : ∀ x, lv.ownBlock = some x → tv.ownBlock ≠ some x
section
variable {W0 : World} {p : Nat} {K : List Nat} {kn : List (Nat × Obj)} {lv tv : Value} {ls ts : List (Int × Int)} {w : World} {os : List Int} {bs : List Bool}
theorem OP.off (h : OP W0 p K kn lv ls tv ts w os bs) {w' : World} {os' : List Int} {bs' : List Bool} (hP : PoolAt w' p K os' bs') (hF : ∃ S, (∀ x, x ∈ S → x ∉ K ∧ x ≠ p) ∧ Keep S w w') : OP W0 p K kn lv ls tv ts w' os' bs' := by
  obtain ⟨S, hS, hk⟩ := hF
  refine ⟨hP, h.pK, h.rl.keep hk (fun b hb hs => (hS b hs).1 (h.kl b hb)), h.rt.keep hk (fun b hb hs => (hS b hs).1 (h.kt b hb)), fun x hx => ⟨hk.kp (h.ow x hx).1 (fun hs => (hS _ hs).1 (h.ow x hx).2), (h.ow x hx).2⟩, h.kp.andThen hk (fun x hx => .inr ?_), h.k0, h.kl, h.kt, h.ne⟩
  rcases Nat.lt_or_ge x W0.heap.size with a | a
  · exact absurd (h.k0 x a) (hS x hx).1
  · exact a
theorem OP.new (h : OP W0 p K kn lv ls tv ts w os bs) {w' : World} (hk : Keep [] w w') : OP W0 p K kn lv ls tv ts w' os bs := h.off (h.pp.keep hk (by simp) (by simp)) ⟨[], by simp, hk⟩
theorem OP.drew (h : OP W0 p K kn lv ls tv ts w os bs) : OP W0 p K kn lv ls tv ts w.drew os bs := h.new (Keep.refl _ _).drew
theorem OP.lives (h : OP W0 p K kn lv ls tv ts w os bs) (a u : Int) : Calls Try.prog 56 #[.pointer (some ⟨p, 0, none⟩), .agg #[.int .i64 a, .int .i64 u]] w fun e w' => e = .returned (.bool (livesB os bs a u)) ∧ OP W0 p K kn lv ls tv ts w' os bs :=
  (aLives w p _ os bs h.pp a u).mono fun _ _ ⟨h1, h2⟩ => ⟨h1, h.new h2⟩
theorem OP.left (h : OP W0 p K kn lv ls tv ts w os bs) : Calls Try.prog 54 #[.pointer (some ⟨p, 0, none⟩)] w fun e w' => e = .returned (.int .i64 (bs.count false : Nat)) ∧ OP W0 p K kn lv ls tv ts w' os bs :=
  (aLeft w p _ os bs h.pp).mono fun _ _ ⟨h1, h2⟩ => ⟨h1, h.new h2⟩
theorem OP.backY (h : OP W0 p K kn lv ls tv ts w os bs) (a u : Int) (hl : livesB os bs a u = true) : Calls Try.prog 52 #[.pointer (some ⟨p, 0, none⟩), .agg #[.int .i64 a, .int .i64 u]] w fun e w' => e = .returned (.int .i64 0) ∧ OP W0 p K kn lv ls tv ts w' os (bs.set (a - 1).toNat false) := by
  refine (aBack w p _ os bs h.pp a u).mono ?_
  intro e w' hq
  unfold backQ at hq
  rw [if_pos hl] at hq
  exact ⟨hq.1, h.off hq.2.1 hq.2.2⟩
theorem OP.backN (h : OP W0 p K kn lv ls tv ts w os bs) (a u : Int) (hl : livesB os bs a u = false) : Calls Try.prog 52 #[.pointer (some ⟨p, 0, none⟩), .agg #[.int .i64 a, .int .i64 u]] w fun e w' => e = .returned (.int .i64 2) ∧ OP W0 p K kn lv ls tv ts w' os bs := by
  refine (aBack w p _ os bs h.pp a u).mono ?_
  intro e w' hq
  unfold backQ at hq
  rw [hl] at hq
  exact ⟨hq.1, h.new hq.2⟩
theorem OP.takeN (h : OP W0 p K kn lv ls tv ts w os bs) (hb : bestK os bs os.length = none) : Calls Try.prog 50 #[.pointer (some ⟨p, 0, none⟩)] w fun e w' => e = .returned (.tuple #[.agg #[.int .i64 0, .int .i64 0], .int .i64 7]) ∧ OP W0 p K kn lv ls tv ts w' os bs := by
  refine (aTake w p _ h.pp.lt os bs h.pp).mono ?_
  intro e w' hq
  obtain ⟨h1, h2⟩ := takeQ_none hq hb
  exact ⟨h1, h.new h2⟩
theorem OP.takeY (h : OP W0 p K kn lv ls tv ts w os bs) {j : Nat} (hb : bestK os bs os.length = some j) : Calls Try.prog 50 #[.pointer (some ⟨p, 0, none⟩)] w fun e w' => e = .returned (.tuple #[.agg #[.int .i64 ((j : Int) + 1), .int .i64 (inc (os.getD j 0))], .int .i64 0]) ∧ OP W0 p K kn lv ls tv ts w' (os.set j (inc (os.getD j 0))) (bs.set j true) := by
  refine (aTake w p _ h.pp.lt os bs h.pp).mono ?_
  intro e w' hq
  obtain ⟨h1, h2, h3⟩ := takeQ_some hq hb
  exact ⟨h1, h.off h2 h3⟩
theorem OP.ob (h : OP W0 p K kn lv ls tv ts w os bs) {b : Nat} {o : Obj} (hb : (b, o) ∈ kn) : Go.Proofs.Ytfljhfggjbkomaa.ob w b = some o := (h.ow _ hb).1
theorem OP.cells {b : Nat} {a u : Int} {t : TypeId} (h : OP W0 p K kn lv ls tv ts w os bs) (hb : (b, .cells #[.int .i64 a, .int .i64 u] t (0, 0)) ∈ kn) : w.cell? ⟨b, 0, none⟩ = some (.int .i64 a) ∧ w.cell? ⟨b, 1, none⟩ = some (.int .i64 u) := by
  have := cell_of_ob (h.ob hb)
  exact ⟨this 0, this 1⟩
theorem OP.wide (h : OP W0 p K kn lv ls tv ts w os bs) {x : Nat} (hx : w.heap.size ≤ x) : PoolAt w p (K ++ [x]) os bs ∧ p ∉ K ++ [x] :=
  ⟨h.pp.addL (fun y hy => by simp at hy; rcases hy with hy | rfl; exact .inl hy; exact .inr hx), by have := h.pp.lt; simp; exact ⟨h.pK, by omega⟩⟩
theorem OP.alloc (h : OP W0 p K kn lv ls tv ts w os bs) (cs : Array Value) (t : TypeId) : OP W0 p (K ++ [w.heap.size]) ((w.heap.size, .cells cs t (0, 0)) :: kn) lv ls tv ts (w.alloc (.cells cs t)) os bs := by
  obtain ⟨h1, h2⟩ := h.wide (Nat.le_refl _)
  exact ⟨h1.keep (S := []) ((Keep.refl _ _).alloc _) (by simp) (by simp), h2, h.rl.keep (S := []) ((Keep.refl _ _).alloc _) (by simp), h.rt.keep (S := []) ((Keep.refl _ _).alloc _) (by simp), fun x hx => by
      rcases List.mem_cons.1 hx with rfl | hx
      · exact ⟨al_new _ _ rfl, by simp⟩
      · exact ⟨al (h.ow x hx).1, List.mem_append_left _ (h.ow x hx).2⟩, h.kp.alloc _, fun x hx => List.mem_append_left _ (h.k0 x hx), fun x hx => List.mem_append_left _ (h.kl x hx), fun x hx => List.mem_append_left _ (h.kt x hx), h.ne⟩
theorem OP.drop (h : OP W0 p K kn lv ls tv ts w os bs) {kn' : List (Nat × Obj)} (hkn : ∀ x, x ∈ kn' → x ∈ kn) : OP W0 p K kn' lv ls tv ts w os bs := ⟨h.pp, h.pK, h.rl, h.rt, fun x hx => h.ow x (hkn x hx), h.kp, h.k0, h.kl, h.kt, h.ne⟩
theorem OP.pushT (h : OP W0 p K kn lv ls tv ts w os bs) (t : Int × Int) {c : Nat} (hc : Go.Proofs.Ytfljhfggjbkomaa.ob w c = some (.cells #[.int .i64 t.1, .int .i64 t.2] 93 (0, 0))) (hn : ts.length ≤ 1000) (hb : ∀ x, x ∈ kn → tv.ownBlock ≠ some x.1) :
    ∃ va vc w', (Builtin.append_ #[91, 91] 91 #[tv, .slice (some ⟨c, 0, none⟩) 1 1]).run Try.prog w = .ok (.slice va (ts.length + 1) vc) w' ∧ OP W0 p (K ++ [w.heap.size]) kn lv ls (.slice va (ts.length + 1) vc) (ts ++ [t]) w' os bs := by
  obtain ⟨va, vc, w', r1, r2, r3, r4⟩ := h.rt.push t hc hn h.kp.size
  obtain ⟨h1, h2⟩ := h.wide (Nat.le_refl _)
  refine ⟨va, vc, w', r1, h1.keep r3 (fun hx => h.pK (h.kt p (Option.mem_toList.1 hx))) (fun x hx => .inl (List.mem_append_left _ (h.kt x (Option.mem_toList.1 hx)))), h2, h.rl.keep r3 (fun b hb hx => h.ne b hb (Option.mem_toList.1 hx)), r2,
    fun x hx => ⟨r3.kp (h.ow x hx).1 (by rw [Option.mem_toList]; exact hb x hx), List.mem_append_left _ (h.ow x hx).2⟩, h.kp.andThen r3 (fun x hx => .inr (ownBlock_ge h.rt (Option.mem_toList.1 hx))), fun x hx => List.mem_append_left _ (h.k0 x hx), fun x hx => List.mem_append_left _ (h.kl x hx), fun x hx => ?_, fun x hx => ?_⟩
  · rcases r4 with r4 | r4
    · rw [r4] at hx; exact List.mem_append_left _ (h.kt x hx)
    · rw [r4] at hx; cases hx; simp
  · rcases r4 with r4 | r4
    · rw [r4]; exact h.ne x hx
    · rw [r4]; intro e; cases e; have := ownBlock_lt h.rl hx; omega
theorem OP.pushL (h : OP W0 p K kn lv ls tv ts w os bs) (t : Int × Int) {c : Nat} (hc : Go.Proofs.Ytfljhfggjbkomaa.ob w c = some (.cells #[.int .i64 t.1, .int .i64 t.2] 93 (0, 0))) (hn : ls.length ≤ 1000) (hb : ∀ x, x ∈ kn → lv.ownBlock ≠ some x.1) :
    ∃ va vc w', (Builtin.append_ #[91, 91] 91 #[lv, .slice (some ⟨c, 0, none⟩) 1 1]).run Try.prog w = .ok (.slice va (ls.length + 1) vc) w' ∧ OP W0 p (K ++ [w.heap.size]) kn (.slice va (ls.length + 1) vc) (ls ++ [t]) tv ts w' os bs := by
  obtain ⟨va, vc, w', r1, r2, r3, r4⟩ := h.rl.push t hc hn h.kp.size
  obtain ⟨h1, h2⟩ := h.wide (Nat.le_refl _)
  refine ⟨va, vc, w', r1, h1.keep r3 (fun hx => h.pK (h.kl p (Option.mem_toList.1 hx))) (fun x hx => .inl (List.mem_append_left _ (h.kl x (Option.mem_toList.1 hx)))), h2, r2, h.rt.keep r3 (fun b hb hx => h.ne b (Option.mem_toList.1 hx) hb),
    fun x hx => ⟨r3.kp (h.ow x hx).1 (by rw [Option.mem_toList]; exact hb x hx), List.mem_append_left _ (h.ow x hx).2⟩, h.kp.andThen r3 (fun x hx => .inr (ownBlock_ge h.rl (Option.mem_toList.1 hx))), fun x hx => List.mem_append_left _ (h.k0 x hx), fun x hx => ?_, fun x hx => List.mem_append_left _ (h.kt x hx), fun x hx => ?_⟩
  · rcases r4 with r4 | r4
    · rw [r4] at hx; exact List.mem_append_left _ (h.kl x hx)
    · rw [r4] at hx; cases hx; simp
  · rcases r4 with r4 | r4
    · rw [r4] at hx; exact h.ne x hx
    · rw [r4] at hx; cases hx; intro e; have := ownBlock_lt h.rt e; omega
/-- one that lives is taken out of the list -/
theorem OP.cut {g n cap : Nat} (h : OP W0 p K kn (.slice (some ⟨g, 0, none⟩) n cap) ls tv ts w os bs) {k : Nat} (hk : k < ls.length) (h8 : ls.length ≤ 1000) (a2 : Addr) (c1 c2 : Nat) (ha2 : ls.length = k + 1 ∨ a2 = ⟨g, (k + 1) * 2, none⟩) :
    ∃ va vb w2 vc vd w3, (Builtin.append_ #[91, 91] 91 #[.slice (some ⟨w.heap.size, 0, none⟩) 0 0, .slice (some ⟨g, 0, none⟩) k c1]).run Try.prog (w.alloc (.cells #[] 93)).drew = .ok (.slice va k vb) w2 ∧
      (Builtin.append_ #[91, 91] 91 #[.slice va k vb, .slice (some a2) (ls.length - (k + 1)) c2]).run Try.prog w2 = .ok (.slice vc (ls.length - 1) vd) w3 ∧ OP W0 p (K ++ (Value.slice vc (ls.length - 1) vd).ownBlock.toList) kn (.slice vc (ls.length - 1) vd) (ls.take k ++ ls.drop (k + 1)) tv ts w3 os bs := by
  obtain ⟨hn, hf⟩ := h.rl.flat
  have hsz := h.kp.size
  have lg : g < w.heap.size := ownBlock_lt h.rl rfl
  have k1 : Keep [] w (w.alloc (.cells #[] 93)).drew := ((Keep.refl _ _).alloc _).drew
  have hs1 : (w.alloc (.cells #[] 93)).drew.heap.size = w.heap.size + 1 := by show (w.alloc _).heap.size = _; simp
  have r0 : RowT (w.alloc (.cells #[] 93)).drew W0.heap.size (.slice (some ⟨w.heap.size, 0, none⟩) 0 0) [] := owns_keep (owns_empty w hsz 93 2) (Keep.refl [] _).drew (by simp)
  have cellK : ∀ {w' : World}, Keep [] w w' → ∀ (j : Nat) (u : Value), (flatT ls)[j]? = some u → w'.cell? ⟨g, j, none⟩ = some u := fun hkp j u hj => by
    rw [cell_ob, hkp.block g lg (by simp), ← cell_ob]; exact hf j u hj
  have hT : flatT ls = flatT (ls.take k) ++ flatT (ls.drop k) := by rw [← flatT_append, List.take_append_drop]
  have hD : flatT ls = flatT (ls.take (k + 1)) ++ flatT (ls.drop (k + 1)) := by rw [← flatT_append, List.take_append_drop]
  have lT : (ls.take k).length = k := by simp; omega
  have lT1 : (flatT (ls.take (k + 1))).length = (k + 1) * 2 := by rw [flatT_length, List.length_take]; congr 1; omega
  have lD : (ls.drop (k + 1)).length = ls.length - (k + 1) := by simp
  obtain ⟨va, vb, w2, q1, q2, q3, q4⟩ := r0.cat (ls.take k) ⟨g, 0, none⟩ c1 (fun j u hj => by
    rw [add_mk, Nat.zero_add]
    refine cellK k1 j u ?_
    rw [hT, List.getElem?_append_left (List.getElem?_eq_some_iff.1 hj).1]; exact hj) (by simp; omega) (by rw [hs1]; omega)
  simp only [lT, List.length_nil, Nat.zero_add, List.nil_append] at q1 q2 q3 q4
  have k2 : Keep [] w w2 := k1.andThen q3 (by intro x hx; simp [Value.ownBlock] at hx; exact .inr (by omega))
  have b2 : ∀ x, (Value.slice va k vb).ownBlock = some x → w.heap.size ≤ x := by
    intro x hx
    rcases q4 with q4 | q4 <;> rw [q4] at hx
    · simp [Value.ownBlock] at hx; omega
    · rw [hs1] at hx; cases hx; omega
  obtain ⟨vc, vd, w3, s1, s2, s3, s4⟩ := q2.cat (ls.drop (k + 1)) a2 c2 (fun j u hj => by
    rcases ha2 with ha2 | rfl
    · have := (List.getElem?_eq_some_iff.1 hj).1
      rw [flatT_length, lD] at this; omega
    · rw [add_mk]
      refine cellK k2 _ u ?_
      rw [hD, List.getElem?_append_right (by rw [lT1]; omega), lT1, Nat.add_sub_cancel_left]; exact hj) (by simp; omega) (by have := k2.size; omega)
  have e1 : (ls.take k).length + (ls.drop (k + 1)).length = ls.length - 1 := by simp; omega
  have k3 : Keep [] w w3 := k2.andThen s3 (fun x hx => .inr (b2 x (Option.mem_toList.1 hx)))
  have b3 : ∀ x, (Value.slice vc (ls.length - 1) vd).ownBlock = some x → w.heap.size ≤ x := by
    intro x hx
    rw [e1] at s4
    rcases s4 with s4 | s4 <;> rw [s4] at hx
    · exact b2 x hx
    · cases hx; exact k2.size
  rw [e1] at s1 s2
  rw [lD] at s1
  refine ⟨va, vb, w2, vc, vd, w3, q1, s1, ?_, ?_, s2, h.rt.keep k3 (by simp), fun x hx => ⟨k3.kp (h.ow x hx).1 (by simp), List.mem_append_left _ (h.ow x hx).2⟩, h.kp.trans k3, fun x hx => List.mem_append_left _ (h.k0 x hx), fun x hx => List.mem_append_right _ (Option.mem_toList.2 hx), fun x hx => List.mem_append_left _ (h.kt x hx), fun x hx e => ?_⟩
  · exact (h.pp.addL (L' := K ++ (Value.slice vc (ls.length - 1) vd).ownBlock.toList) (fun x hx => by
      rcases List.mem_append.1 hx with hx | hx
      · exact .inl hx
      · exact .inr (b3 x (Option.mem_toList.1 hx)))).keep k3 (by simp) (by simp)
  · intro hx
    rcases List.mem_append.1 hx with hx | hx
    · exact h.pK hx
    · have := b3 p (Option.mem_toList.1 hx); have := h.pp.lt; omega
  · have := b3 x hx; have := ownBlock_lt h.rt e; omega
/-- forget blocks -/
theorem OP.loop (h : OP W0 p K kn lv ls tv ts w os bs) : OP W0 p (List.range W0.heap.size ++ (lv.ownBlock.toList ++ tv.ownBlock.toList)) [] lv ls tv ts w os bs := by
  have hK : ∀ x, x ∈ List.range W0.heap.size ++ (lv.ownBlock.toList ++ tv.ownBlock.toList) → x ∈ K := by
    intro x hx
    simp at hx
    rcases hx with hx | hx | hx
    · exact h.k0 x hx
    · exact h.kl x hx
    · exact h.kt x hx
  exact ⟨h.pp.addL (fun x hx => .inl (hK x hx)), fun hp => h.pK (hK p hp), h.rl, h.rt, by simp, h.kp, by simp; exact fun x hx => .inl hx, by simp; exact fun x hx => .inr (.inl hx), by simp; exact fun x hx => .inr (.inr hx), h.ne⟩
theorem OP.ltl (h : OP W0 p K kn lv ls tv ts w os bs) : ∀ x, lv.ownBlock = some x → x < w.heap.size := fun x hx => ownBlock_lt h.rl hx
theorem OP.ltt (h : OP W0 p K kn lv ls tv ts w os bs) : ∀ x, tv.ownBlock = some x → x < w.heap.size := fun x hx => ownBlock_lt h.rt hx
end
end Go.Proofs.Ytfljhfggjbkomaa
