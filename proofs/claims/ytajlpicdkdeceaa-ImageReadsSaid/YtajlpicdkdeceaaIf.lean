import Derived.Test.YtajlpicdkdeceaaId
namespace Go.Proofs.Ytajlpicdkdeceaa
open Go.RowKit
set_option linter.unusedSimpArgs false
set_option linter.unusedVariables false
attribute [local go_sem] ob_alloc ob_drew ob_drewN ob_setCell ob_setBlock objSet_cells obMap_map obClock_map isMapI_map keyI_mk findI_nil findI_cons lookRes_some lookRes_none lookRes_some' lookRes_none' setBlock_alloc mapPut

theorem row_type {α : Type} {k : Nat} {E : Enc α k} {e : TypeId} {w : World} {B : Nat} {v : Value} {xs : List α} (h : RowE E e w B v xs) {b : Nat} (hb : v.ownBlock = some b) {cs : Array Value} {t : TypeId} {f : Nat × Nat} (ho : ob w b = some (.cells cs t f)) : t = e := by
  obtain ⟨_, h | ⟨g, cap, cur, rfl, _, hg, _⟩⟩ := h
  · rw [h.1] at hb; cases hb
  · simp [Value.ownBlock] at hb
    subst hb
    have := (show ob w g = _ from hg).symm.trans ho
    simp at this
    exact this.2.1.symm
theorem row_ob {α : Type} {k : Nat} {E : Enc α k} {e : TypeId} {w : World} {B : Nat} {v : Value} {xs : List α} (h : RowE E e w B v xs) {b : Nat} (hb : v.ownBlock = some b) : ∃ cs, ob w b = some (.cells cs e (0, 0)) := by
  obtain ⟨_, h | ⟨g, cap, cur, rfl, _, hg, _⟩⟩ := h
  · rw [h.1] at hb; cases hb
  · simp [Value.ownBlock] at hb
    subst hb
    exact ⟨_, hg⟩
theorem row_weak {α : Type} {k : Nat} {E : Enc α k} {e : TypeId} {w : World} {B B' : Nat} {v : Value} {xs : List α} (h : RowE E e w B v xs) (hB : B' ≤ B) : RowE E e w B' v xs := by
  obtain ⟨hl, h | ⟨g, cap, cur, h1, h2, h3⟩⟩ := h
  · exact ⟨hl, .inl h⟩
  · exact ⟨hl, .inr ⟨g, cap, cur, h1, Nat.le_trans hB h2, h3⟩⟩
theorem info42 : (Try.prog.info? 42).map (fun i => (i.zero, i.size, i.bytes)) = some (some (.agg #[.int .i64 0, .bool false, .slice none 0 0]), 3, 40) := by kernel_rfl
/-- parts in the call's own rows -/
def Own3 (w : World) (B : Nat) (v : Value) (ps : List PB) : Prop := ∃ rs : List RT, RowE rtE 42 w B v rs ∧ rs.length = ps.length ∧ ∀ (i : Nat) q p, rs[i]? = some q → ps[i]? = some p → q.pg = p.pg ∧ q.wr = p.wr ∧ q.sn = p.ws.length ∧ (∀ x ∈ p.ws, okW x) ∧ RowE u64E 43 w B (.slice q.sa q.sn q.sc) p.ws
theorem Own3.keep {S : List Nat} {w w' : World} {B : Nat} {v : Value} {ps : List PB} (h : Own3 w B v ps) (hk : Keep S w w') (hS : ∀ b ∈ S, ∀ cs t f, ob w b = some (.cells cs t f) → t ≠ 42 ∧ t ≠ 43) : Own3 w' B v ps := by
  obtain ⟨rs, h1, h2, h3⟩ := h
  refine ⟨rs, h1.keep hk (fun b hb hm => ?_), h2, fun i q p hq hp => ?_⟩
  · obtain ⟨cs, ho⟩ := row_ob h1 hb
    exact (hS b hm _ _ _ ho).1 rfl
  · obtain ⟨a1, a2, a3, a4, a5⟩ := h3 i q p hq hp
    refine ⟨a1, a2, a3, a4, a5.keep hk (fun b hb hm => ?_)⟩
    obtain ⟨cs, ho⟩ := row_ob a5 hb
    exact (hS b hm _ _ _ ho).2 rfl
theorem rd_u64 {w : World} {B : Nat} {v : Value} {ws : List Int} (h : RowE u64E 43 w B v ws) (hw : ∀ x ∈ ws, okW x) : RdI w .u64 v ws := by
  have h1 := Rd.own (show w.ownsRow B 43 1 v ws.length (u64E.flat ws) from h)
  rw [u64E_flat] at h1
  refine ⟨h1, fun x hx => ?_⟩
  have := hw x hx
  unfold okW at this
  simp [Lit.wf, IntKind.min, IntKind.max, IntKind.bits, IntKind.signed]
  omega
theorem Own3.prd {w : World} {B : Nat} {v : Value} {ps : List PB} (h : Own3 w B v ps) : PRd w v ps := by
  obtain ⟨rs, h1, h2, h3⟩ := h
  refine ⟨rs, h2, ?_, fun i q p hq hp => ?_⟩
  · obtain ⟨a, cap, rfl⟩ := h1.slice
    have hb := h1
    obtain ⟨_, h4 | ⟨g, cap', cur, hv, _, hg, hn, hm, _⟩⟩ := hb
    · obtain ⟨h4, h5⟩ := h4
      simp only [Value.slice.injEq] at h4
      obtain ⟨rfl, h6, rfl⟩ := h4
      refine ⟨none, 0, rfl, by omega, Nat.zero_le _, fun i r hr => ?_⟩
      have := (List.getElem?_eq_some_iff.1 hr).1; omega
    · simp only [Value.slice.injEq] at hv
      obtain ⟨rfl, _, rfl⟩ := hv
      refine ⟨_, cap, rfl, hn, hm, fun i r hr => ?_⟩
      obtain ⟨g', c', e1, _, e3, _, _, hX⟩ := h1.get hr
      simp only [Value.slice.injEq, Option.some.injEq, Addr.mk.injEq, and_true, true_and] at e1
      obtain ⟨rfl, rfl⟩ := e1
      refine ⟨g, 0, rfl, e3, ?_, ?_, ?_⟩
      · have := hX 0 _ rfl; rw [Nat.add_zero] at this; rw [Nat.zero_add]; exact this
      · have := hX 1 _ rfl; rw [Nat.zero_add]; exact this
      · have := hX 2 _ rfl; rw [Nat.zero_add]; exact this
  · obtain ⟨a1, a2, a3, a4, a5⟩ := h3 i q p hq hp
    exact ⟨a1, a2, rd_u64 a5 a4⟩
structure LW (w0 w : World) (rb lc ec : Nat) (r : List Int) (ps : List PB) (lv : Value) : Prop where
  rd : RDR w rb w0.heap.size r
  ob : ob w lc = some (.cells #[lv] 22 (0, 0))
  row : Own3 w w0.heap.size lv ps
  er : Ytajlpicdkdeceaa.ob w ec = some (.cells #[.int .i64 0] 26 (0, 0))
  kp : Keep [] w0 w
  n1 : w0.heap.size ≤ rb
  n2 : w0.heap.size ≤ lc
  n3 : w0.heap.size ≤ ec
  m1 : rb ≠ lc
  m2 : rb ≠ ec
  m3 : lc ≠ ec
section
variable {w0 w w' : World} {rb lc ec : Nat} {r r' : List Int} {ps : List PB} {lv : Value}
theorem RDR.type {B : Nat} (h : RDR w rb B r) {cs : Array Value} {t : TypeId} {f : Nat × Nat} (ho : ob w rb = some (.cells cs t f)) : t = 50 := by
  obtain ⟨sv, h1, _⟩ := h
  have := h1.symm.trans ho
  simp at this
  exact this.2.1.symm
theorem LW.new (h : LW w0 w rb lc ec r ps lv) (hk : Keep [] w w') : LW w0 w' rb lc ec r ps lv :=
  ⟨h.rd.keep hk (by simp) (by simp), hk.kp h.ob (by simp), h.row.keep hk (by simp), hk.kp h.er (by simp), h.kp.trans hk, h.n1, h.n2, h.n3, h.m1, h.m2, h.m3⟩
theorem LW.took (h : LW w0 w rb lc ec r ps lv) (hR : RDR w' rb w0.heap.size r') (hk : Keep [rb] w w') : LW w0 w' rb lc ec r' ps lv := by
  refine ⟨hR, hk.kp h.ob (by simp; exact fun e => h.m1 e.symm), h.row.keep hk (fun b hb cs t f ho => ?_), hk.kp h.er (by simp; exact fun e => h.m2 e.symm), h.kp.andThen hk (by intro y hy; simp at hy; subst hy; exact .inr h.n1), h.n1, h.n2, h.n3, h.m1, h.m2, h.m3⟩
  simp at hb
  subst hb
  rw [h.rd.type ho]
  decide
theorem LW.push (h : LW w0 w rb lc ec r ps lv) (p : PB) (sa : Option Addr) (sc : Nat) (hp : RowE u64E 43 w w0.heap.size (.slice sa p.ws.length sc) p.ws) (hw : ∀ x ∈ p.ws, okW x) (hl : ps.length ≤ 300) :
    ∃ va vc w2, (∀ ty, (Builtin.append_ #[22, 22] ty #[lv, .slice (some ⟨w.heap.size, 0, none⟩) 1 1]).run Try.prog (w.alloc (.cells #[.int .i64 p.pg, .bool p.wr, .slice sa p.ws.length sc] 42)) = .ok (.slice va (ps.length + 1) vc) w2) ∧
      LW w0 (w2.setCell ⟨lc, 0, none⟩ (.slice va (ps.length + 1) vc)) rb lc ec r (ps ++ [p]) (.slice va (ps.length + 1) vc) ∧ w2.frozen? ⟨lc, 0, none⟩ = false ∧ w2.cell? ⟨lc, 0, none⟩ = some lv ∧ lc < w2.heap.size := by
  obtain ⟨rs, h1, h2, h3⟩ := h.row
  have kA : Keep [] w (w.alloc (.cells #[.int .i64 p.pg, .bool p.wr, .slice sa p.ws.length sc] 42)) := (Keep.refl _ _).alloc _
  have hsz := h.kp.size
  obtain ⟨va, vc, w2, g1, g2, g3, g4⟩ := (h1.keep kA (by simp)).push (P := Try.prog) Try.underlying22 info42 rfl (by omega) ⟨p.pg, p.wr, sa, p.ws.length, sc⟩ (al_new w (.cells #[.int .i64 p.pg, .bool p.wr, .slice sa p.ws.length sc] 42) rfl) 1 (by omega) (by omega) (by simp; omega)
  rw [h2] at g1 g2 g4
  have k2 : Keep lv.ownBlock.toList w w2 := (kA.mono (by simp)).trans g3
  have hty : ∀ b, b ∈ lv.ownBlock.toList → ∃ cs, Ytajlpicdkdeceaa.ob w b = some (.cells cs 42 (0, 0)) := fun b hb => by
    simp only [Option.mem_toList] at hb
    exact row_ob h1 hb
  have notIn : ∀ {b : Nat} {cs : Array Value} {t : TypeId} {f : Nat × Nat}, Ytajlpicdkdeceaa.ob w b = some (.cells cs t f) → t ≠ 42 → b ∉ lv.ownBlock.toList := fun {b cs t f} ho ht hm => by
    obtain ⟨cs', e⟩ := hty b hm
    rw [ho] at e
    simp at e
    exact ht e.2.1
  obtain ⟨sv, hrb, _⟩ := h.rd
  have l2 := k2.kp h.ob (notIn h.ob (by decide))
  have e2 := k2.kp h.er (notIn h.er (by decide))
  have r2 := h.rd.keep k2 (notIn hrb (by decide)) (fun b hb => by simp only [Option.mem_toList] at hb; exact ownBlock_ge h1 hb)
  have wk : ∀ {v : Value} {xs : List Int}, RowE u64E 43 w w0.heap.size v xs → RowE u64E 43 w2 w0.heap.size v xs := fun {v xs} hr => hr.keep k2 (fun b hb => by
    obtain ⟨cs, ho⟩ := row_ob hr hb
    exact notIn ho (by decide))
  have o2 : Own3 w2 w0.heap.size (.slice va (ps.length + 1) vc) (ps ++ [p]) := by
    refine ⟨_, g2, by simp [h2], fun i q p' hq hp' => ?_⟩
    rcases Nat.lt_or_ge i rs.length with hi | hi
    · rw [List.getElem?_append_left hi] at hq
      rw [List.getElem?_append_left (by omega)] at hp'
      obtain ⟨a1, a2, a3, a4, a5⟩ := h3 i q p' hq hp'
      exact ⟨a1, a2, a3, a4, wk a5⟩
    · rw [List.getElem?_append_right hi] at hq
      rw [List.getElem?_append_right (by omega)] at hp'
      rw [h2] at hq
      cases hn : i - ps.length with
      | zero =>
        rw [hn] at hq hp'
        simp at hq hp'
        subst hq hp'
        exact ⟨rfl, rfl, rfl, hw, wk hp⟩
      | succ n => rw [hn] at hp'; simp at hp'
  have hk : Keep [lc] w2 (w2.setCell ⟨lc, 0, none⟩ (.slice va (ps.length + 1) vc)) := (Keep.refl _ _).setCell (.inl (by simp)) 0 _
  refine ⟨va, vc, w2, g1, ⟨r2.keep hk (by simp; exact h.m1) (by simp; exact h.n2), (st_same l2).trans rfl, o2.keep hk (fun b hb cs t f ho => ?_), hk.kp e2 (by simp; exact fun e => h.m3 e.symm), ?_, h.n1, h.n2, h.n3, h.m1, h.m2, h.m3⟩, free_of_ob l2 0, by rw [cell_of_ob l2]; rfl, ob_lt l2⟩
  · simp at hb
    subst hb
    rw [l2] at ho
    simp at ho
    rw [← ho.2.1]
    decide
  · exact (h.kp.andThen k2 (fun b hb => by simp only [Option.mem_toList] at hb; exact .inr (ownBlock_ge h1 hb))).andThen hk (by intro y hy; simp at hy; subst hy; exact .inr h.n2)
end
end Go.Proofs.Ytajlpicdkdeceaa
