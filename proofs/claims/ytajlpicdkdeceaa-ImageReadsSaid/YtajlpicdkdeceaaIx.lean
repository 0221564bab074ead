import Derived.Test.YtajlpicdkdeceaaIq
import Derived.Test.YtajlpicdkdeceaaIg
import Derived.Test.YtajlpicdkdeceaaIn
namespace Go.Proofs.Ytajlpicdkdeceaa
open Go.RowKit
set_option linter.unusedSimpArgs false
set_option linter.unusedVariables false
attribute [local go_sem] ob_alloc ob_drew ob_drewN ob_setCell ob_setBlock objSet_cells obMap_map obClock_map isMapI_map keyI_mk findI_nil findI_cons lookRes_some lookRes_none lookRes_some' lookRes_none' setBlock_alloc mapPut
attribute [local go_sem ↓] Go.wp_at_zero Go.wp_at_succ

/-- reference parts in the call's own rows -/
def Own6 (w : World) (B : Nat) (v : Value) (ps : List PB) : Prop := ∃ rs : List RT, RowE rtE 46 w B v rs ∧ rs.length = ps.length ∧ ∀ (i : Nat) q p, rs[i]? = some q → ps[i]? = some p → q.pg = p.pg ∧ q.wr = p.wr ∧ q.sn = p.ws.length ∧ (∀ x ∈ p.ws, okW x) ∧ RowE u64E 43 w B (.slice q.sa q.sn q.sc) p.ws
structure QW (w0 w : World) (v : Value) (ps : List PB) : Prop where
  row : Own6 w w0.heap.size v ps
  kp : Keep [] w0 w
/-- a reference part in work -/
structure RW (w1 w : World) (pb : Nat) (pg : Int) (wr : Bool) (ws : List Int) (wsv : Value) : Prop where
  ob : ob w pb = some (.cells #[.int .i64 pg, .bool wr, wsv] 46 (0, 0))
  row : RowE u64E 43 w w1.heap.size wsv ws
  kp : Keep [] w1 w
  n2 : w1.heap.size ≤ pb
section
variable {w0 w1 w w' : World} {v wsv : Value} {ps : List PB} {pb : Nat} {pg : Int} {wr : Bool} {ws : List Int}
theorem QW.nil (w : World) : QW w w (.slice none 0 0) [] := ⟨⟨[], RowE.nil _ _, rfl, fun i q p hq => by simp at hq⟩, Keep.refl _ _⟩
theorem QW.new (h : QW w0 w v ps) (hk : Keep [] w w') : QW w0 w' v ps := by
  obtain ⟨⟨rs, h1, h2, h3⟩, h4⟩ := h
  refine ⟨⟨rs, h1.keep hk (by simp), h2, fun i q p hq hp => ?_⟩, h4.trans hk⟩
  obtain ⟨a1, a2, a3, a4, a5⟩ := h3 i q p hq hp
  exact ⟨a1, a2, a3, a4, a5.keep hk (by simp)⟩
theorem QW.slice (h : QW w0 w v ps) : ∃ sl scl, v = .slice sl ps.length scl := by
  obtain ⟨⟨rs, h1, h2, h3⟩, h4⟩ := h
  obtain ⟨sl, scl, e⟩ := h1.slice
  rw [h2] at e
  exact ⟨sl, scl, e⟩
theorem QW.prd (h : QW w0 w v ps) : PRd w v ps := by
  obtain ⟨⟨rs, h1, h2, h3⟩, _⟩ := h
  refine ⟨rs, h2, ?_, fun i q p hq hp => ?_⟩
  · obtain ⟨a, cap, rfl⟩ := h1.slice
    have hb := h1
    obtain ⟨_, h4 | ⟨g, cap', cur, hv, _, hg, hn, hm, _⟩⟩ := hb
    · obtain ⟨h4, h5⟩ := h4
      simp only [Value.slice.injEq] at h4
      obtain ⟨rfl, h6, rfl⟩ := h4
      refine ⟨none, 0, rfl, by omega, Nat.zero_le _, fun i r hr => ?_⟩
      have := (List.getElem?_eq_some_iff.1 hr).1; omega
    · simp only [Value.slice.injEq] at hv
      obtain ⟨rfl, _, rfl⟩ := hv
      refine ⟨_, cap, rfl, hn, hm, fun i r hr => ?_⟩
      obtain ⟨g', c', e1, _, e3, _, _, hX⟩ := h1.get hr
      simp only [Value.slice.injEq, Option.some.injEq, Addr.mk.injEq, and_true, true_and] at e1
      obtain ⟨rfl, rfl⟩ := e1
      refine ⟨g, 0, rfl, e3, ?_, ?_, ?_⟩
      · have := hX 0 _ rfl; rw [Nat.add_zero] at this; rw [Nat.zero_add]; exact this
      · have := hX 1 _ rfl; rw [Nat.zero_add]; exact this
      · have := hX 2 _ rfl; rw [Nat.zero_add]; exact this
  · obtain ⟨a1, a2, a3, a4, a5⟩ := h3 i q p hq hp
    exact ⟨a1, a2, rd_u64 a5 a4⟩
theorem QW.push (h : QW w0 w v ps) (p : PB) (sa : Option Addr) (sc : Nat) (hp : RowE u64E 43 w w0.heap.size (.slice sa p.ws.length sc) p.ws) (hw : ∀ x ∈ p.ws, okW x) (hl : ps.length ≤ 300) :
    ∃ va vc w2, (∀ ty, (Builtin.append_ #[30, 30] ty #[v, .slice (some ⟨w.heap.size, 0, none⟩) 1 1]).run Try.prog (w.alloc (.cells #[.int .i64 p.pg, .bool p.wr, .slice sa p.ws.length sc] 46)) = .ok (.slice va (ps.length + 1) vc) w2) ∧
      QW w0 w2 (.slice va (ps.length + 1) vc) (ps ++ [p]) := by
  obtain ⟨⟨rs, h1, h2, h3⟩, hk⟩ := h
  have kA : Keep [] w (w.alloc (.cells #[.int .i64 p.pg, .bool p.wr, .slice sa p.ws.length sc] 46)) := (Keep.refl _ _).alloc _
  have hsz := hk.size
  obtain ⟨va, vc, w2, g1, g2, g3, g4⟩ := (h1.keep kA (by simp)).push (P := Try.prog) Try.underlying30 info46 rfl (by omega) ⟨p.pg, p.wr, sa, p.ws.length, sc⟩ (al_new w (.cells #[.int .i64 p.pg, .bool p.wr, .slice sa p.ws.length sc] 46) rfl) 1 (by omega) (by omega) (by simp; omega)
  rw [h2] at g1 g2 g4
  have k2 : Keep v.ownBlock.toList w w2 := (kA.mono (by simp)).trans g3
  have notIn : ∀ {b : Nat} {cs : Array Value} {t : TypeId} {f : Nat × Nat}, Ytajlpicdkdeceaa.ob w b = some (.cells cs t f) → t ≠ 46 → b ∉ v.ownBlock.toList := fun {b cs t f} ho ht hm => by
    simp only [Option.mem_toList] at hm
    obtain ⟨cs', e⟩ := row_ob h1 hm
    rw [ho] at e
    simp at e
    exact ht e.2.1
  have wk : ∀ {v : Value} {xs : List Int}, RowE u64E 43 w w0.heap.size v xs → RowE u64E 43 w2 w0.heap.size v xs := fun {v xs} hr => hr.keep k2 (fun b hb => by
    obtain ⟨cs, ho⟩ := row_ob hr hb
    exact notIn ho (by decide))
  refine ⟨va, vc, w2, g1, ⟨⟨_, g2, by simp [h2], fun i q p' hq hp' => ?_⟩, hk.andThen k2 (fun b hb => by simp only [Option.mem_toList] at hb; exact .inr (ownBlock_ge h1 hb))⟩⟩
  rcases Nat.lt_or_ge i rs.length with hi | hi
  · rw [List.getElem?_append_left hi] at hq
    rw [List.getElem?_append_left (by omega)] at hp'
    obtain ⟨a1, a2, a3, a4, a5⟩ := h3 i q p' hq hp'
    exact ⟨a1, a2, a3, a4, wk a5⟩
  · rw [List.getElem?_append_right hi] at hq
    rw [List.getElem?_append_right (by omega)] at hp'
    rw [h2] at hq
    cases hn : i - ps.length with
    | zero =>
      rw [hn] at hq hp'
      simp at hq hp'
      subst hq hp'
      exact ⟨rfl, rfl, rfl, hw, wk hp⟩
    | succ n => rw [hn] at hp'; simp at hp'
theorem RW.begin (w : World) (pg : Int) (wr : Bool) : RW w (w.alloc (.cells #[.int .i64 pg, .bool wr, .slice none 0 0] 46)) w.heap.size pg wr [] (.slice none 0 0) :=
  ⟨al_new w (.cells #[.int .i64 pg, .bool wr, .slice none 0 0] 46) rfl, RowE.nil _ _, (Keep.refl _ _).alloc _, Nat.le_refl _⟩
theorem RW.new (h : RW w1 w pb pg wr ws wsv) (hk : Keep [] w w') : RW w1 w' pb pg wr ws wsv := ⟨hk.kp h.ob (by simp), h.row.keep hk (by simp), h.kp.trans hk, h.n2⟩
theorem RW.push (h : RW w1 w pb pg wr ws wsv) (x : Int) (hl : ws.length ≤ 300) :
    ∃ va vc w2, (∀ ty, (Builtin.append_ #[40, 40] ty #[wsv, .slice (some ⟨w.heap.size, 0, none⟩) 1 1]).run Try.prog (w.alloc (.cells #[.int .u64 x] 43)) = .ok (.slice va (ws.length + 1) vc) w2) ∧
      RW w1 (w2.setCell ⟨pb, 2, none⟩ (.slice va (ws.length + 1) vc)) pb pg wr (ws ++ [x]) (.slice va (ws.length + 1) vc) ∧ w2.frozen? ⟨pb, 2, none⟩ = false ∧ w2.cell? ⟨pb, 2, none⟩ = some wsv ∧ pb < w2.heap.size := by
  have kA : Keep [] w (w.alloc (.cells #[.int .u64 x] 43)) := (Keep.refl _ _).alloc _
  have hsz := h.kp.size
  obtain ⟨va, vc, w2, g1, g2, g3, g4⟩ := (h.row.keep kA (by simp)).push (P := Try.prog) Try.underlying40 info43 rfl (by omega) x (al_new w (.cells #[.int .u64 x] 43) rfl) 1 (by omega) (by omega) (by simp; omega)
  have k2 : Keep wsv.ownBlock.toList w w2 := (kA.mono (by simp)).trans g3
  have o2 := k2.kp h.ob (fun hm => by
    simp only [Option.mem_toList] at hm
    have := row_type h.row hm h.ob
    revert this; decide)
  have hk : Keep [pb] w2 (w2.setCell ⟨pb, 2, none⟩ (.slice va (ws.length + 1) vc)) := (Keep.refl _ _).setCell (.inl (by simp)) 2 _
  have kF : Keep [] w1 w2 := h.kp.andThen k2 (fun b hb => by simp only [Option.mem_toList] at hb; exact .inr (ownBlock_ge h.row hb))
  refine ⟨va, vc, w2, g1, ⟨(st_same o2).trans rfl, g2.keep hk (fun b hb hm => ?_), kF.andThen hk (by intro y hy; simp at hy; subst hy; exact .inr h.n2), h.n2⟩, free_of_ob o2 2, by rw [cell_of_ob o2]; rfl, ob_lt o2⟩
  simp at hm
  subst hm
  have := row_type g2 hb o2
  revert this; decide
theorem RW.cells (h : RW w1 w pb pg wr ws wsv) : w.cell? ⟨pb, 0, none⟩ = some (.int .i64 pg) ∧ w.cell? ⟨pb, 1, none⟩ = some (.bool wr) ∧ w.cell? ⟨pb, 2, none⟩ = some wsv ∧ pb < w.heap.size :=
  ⟨by rw [cell_of_ob h.ob]; rfl, by rw [cell_of_ob h.ob]; rfl, by rw [cell_of_ob h.ob]; rfl, ob_lt h.ob⟩
end
theorem val_snoc' (bs : List Int) (c : Int) : val (bs ++ [c]) = val bs * 256 + c := by simp [val]
theorem val_take : ∀ (q : Nat) (bs : List Int) (x : Int), bs[q]? = some x → val (bs.take (q + 1)) = val (bs.take q) * 256 + x := by
  intro q bs x h
  rw [List.take_add_one, h]
  exact val_snoc' _ _
theorem val_bd' : ∀ (q : Nat) (bs : List Int), (∀ c ∈ bs, okB c) → 0 ≤ val (bs.take q) ∧ val (bs.take q) < 256 ^ q
  | 0, bs, _ => by simp [val]
  | q + 1, bs, h => by
    have ih := val_bd' q bs h
    cases hx : bs[q]? with
    | none =>
      have hl := List.getElem?_eq_none_iff.1 hx
      rw [List.take_of_length_le (by omega)] at ih ⊢
      have : (256 : Int) ^ q ≤ 256 ^ (q + 1) := by rw [Int.pow_succ]; have : (0 : Int) < 256 ^ q := Int.pow_pos (by omega); omega
      omega
    | some x =>
      rw [val_take q bs x hx]
      have hc := h x (List.mem_of_getElem? hx)
      unfold okB at hc
      rw [Int.pow_succ]
      omega
theorem strOfNums_inj {xs ys : List Int} (hx : ∀ c ∈ xs, okB c) (hy : ∀ c ∈ ys, okB c) (h : strOfNums xs = strOfNums ys) : xs = ys := by
  unfold strOfNums at h
  simp only [ByteArray.mk.injEq, Array.mk.injEq] at h
  have key : ∀ zs : List Int, (∀ c ∈ zs, okB c) → (zs.map fun n => UInt8.ofNat n.toNat).map (fun b => (b.toNat : Int)) = zs := by
    intro zs hz
    rw [List.map_map]
    conv => rhs; rw [← List.map_id zs]
    refine List.map_congr_left (fun c hc => ?_)
    have := hz c hc
    unfold okB at this
    simp
    omega
  have := congrArg (List.map (fun b : UInt8 => (b.toNat : Int))) h
  rw [key xs hx, key ys hy] at this
  exact this
theorem refPs_short {f : Nat} {bs : List Int} (h : bs.length < 4) : refPs f bs = [] := by
  match f, bs, h with
  | 0, _, _ => rfl
  | _ + 1, [], _ => rfl
  | _ + 1, [_], _ => rfl
  | _ + 1, [_, _], _ => rfl
  | _ + 1, [_, _, _], _ => rfl
theorem refPs_long {f : Nat} {bs : List Int} {a b c d : Int} (h0 : bs[0]? = some a) (h1 : bs[1]? = some b) (h2 : bs[2]? = some c) (h3 : bs[3]? = some d) : refPs (f + 1) bs = ⟨a * 256 + b, decide (c = 1), (refWs d.toNat (bs.drop 4)).1⟩ :: refPs f (refWs d.toNat (bs.drop 4)).2 := by
  match bs, h0, h1, h2, h3 with
  | a' :: b' :: c' :: d' :: r, h0, h1, h2, h3 =>
    simp at h0 h1 h2 h3
    subst h0 h1 h2 h3
    rfl
theorem refWs_stop {d : Nat} {bs : List Int} (h : bs.length < 8) : refWs d bs = ([], bs) := by
  cases d with
  | zero => rfl
  | succ d => rw [refWs, if_neg (by omega)]
set_option maxRecDepth 100000 in
set_option maxHeartbeats 4000000 in
theorem rRead (w : World) (bv : Value) (bs : List Int) (h : RdI w .u8 bv bs) (hb : ∀ c ∈ bs, okB c) (hs : bs.length ≤ 3000) :
    Calls Try.prog 13 #[bv] w (ReadPost w (dec bs)) := by
  have HR := Lib.hid h
  have HB := Lib.hid hb
  have HD := Lib.hid (ref_dec bs hb)
  obtain ⟨a, cap, hve, hc1, hc2⟩ := h.1.len
  rw [List.length_map] at hve hc1
  unfold maxLen at hc2
  subst hve
  clear h hb
  obtain ⟨N, hN⟩ : ∃ N, bs.length = N := ⟨_, rfl⟩
  rw [hN] at hs hc1 HR ⊢
  go_enter Try.func13, Try.ntmps13
  go_wp2_with fail
  go_loopg [4, 5] 18 (fun gn s4 s5 wr => ∃ (lv : Value) (ps : List PB) (t : Nat), lv = s4 ∧ s5 = .int .i64 t ∧ t ≤ N + 1 ∧ gn = 18 - ps.length ∧ ps.length ≤ 17 ∧ QW w wr lv ps ∧ refPs 17 (bs.drop 1) = ps ++ refPs (17 - ps.length) (bs.drop t))
  case atStart => exact ⟨_, [], 1, rfl, rfl, by omega, rfl, by simp, QW.nil w, rfl⟩
  case round =>
    obtain ⟨lv, ps, t, rfl, rfl, ht, rfl, hps, hQ, hrf⟩ := hrel
    obtain ⟨sl, scl, rfl⟩ := hQ.slice
    obtain ⟨K, hK⟩ : ∃ K, ps.length = K := ⟨_, rfl⟩
    rw [hK] at hps hQ hrf ⊢
    by_cases hgo : K < 17 ∧ t + 3 < N
    · obtain ⟨hg1, hg2⟩ := hgo
      have hg2' : (t : Int) + 3 < N := by omega
      have hbt : ∀ i, i < N → ∃ c : Int, bs[i]? = some c ∧ 0 ≤ c ∧ c ≤ 255 := fun i hi => by
        have hx : bs[i]? = some (bs[i]'(by omega)) := List.getElem?_eq_getElem _
        have := HB.out _ (List.mem_of_getElem? hx)
        unfold okB at this
        exact ⟨_, hx, this⟩
      obtain ⟨b0, e0, hb0, hb0'⟩ := hbt t (by omega)
      obtain ⟨b1, e1, hb1, hb1'⟩ := hbt (t + 1) (by omega)
      obtain ⟨b2, e2, hb2, hb2'⟩ := hbt (t + 2) (by omega)
      obtain ⟨b3, e3, hb3, hb3'⟩ := hbt (t + 3) (by omega)
      obtain ⟨db, doff, dcap, hveq, _, _, hX⟩ := HR.out.1.pos (by rw [List.length_map]; omega)
      rw [List.length_map, hN] at hveq
      simp only [Value.slice.injEq, true_and] at hveq
      obtain ⟨rfl, rfl⟩ := hveq
      have hgt : ∀ i c, bs[i]? = some c → w.cell? ⟨db, doff + i, none⟩ = some (.int .u8 c) := fun i c hc => hX i _ (by rw [List.getElem?_map, hc]; rfl)
      have q0 := hgt _ _ e0
      have q1 := hgt _ _ e1
      have q2 := hgt _ _ e2
      have q3 := hgt _ _ e3
      have hdb : db < w.heap.size := World.block_lt_of_cell? (a := ⟨db, doff + t, none⟩) _ q0
      have HG := Lib.hid (And.intro hgt hdb)
      have hlong := refPs_long (f := 16 - K) (bs := bs.drop t) (by rw [List.getElem?_drop]; exact e0) (by rw [List.getElem?_drop]; exact e1) (by rw [List.getElem?_drop]; exact e2) (by rw [List.getElem?_drop]; exact e3)
      rw [show 17 - K = 16 - K + 1 by omega, hlong, List.drop_drop] at hrf
      have HRF := Lib.hid hrf
      have HQ := Lib.hid (And.intro hQ hK)
      obtain ⟨d, rfl⟩ := Int.eq_ofNat_of_zero_le hb3
      rw [← cell_keep hQ.kp hdb] at q0 q1 q2 q3
      have hdb2 := Nat.lt_of_lt_of_le hdb hQ.kp.size
      clear hX hgt hlong hrf hQ e0 e1 e2 e3 hbt hK hdb
      have i0 : (0 : Int) ≤ t := by omega
      have i1 : (t : Int) < N := by omega
      have j0 : (0 : Int) ≤ t + 1 := by omega
      have j1 : (t : Int) + 1 < N := by omega
      have k0 : (0 : Int) ≤ t + 2 := by omega
      have k1 : (t : Int) + 2 < N := by omega
      have j2 : IntKind.i64.wrap ((t : Int) + 1) = t + 1 := by unfold IntKind.wrap; simp [IntKind.bits, IntKind.signed]; omega
      have k2 : IntKind.i64.wrap ((t : Int) + 2) = t + 2 := by unfold IntKind.wrap; simp [IntKind.bits, IntKind.signed]; omega
      rw [show t + 2 = ((t : Int) + 2).toNat by omega] at q2
      go_upto_region 4 with fail
      go_region_held3 (fun w' => w'.cell? ⟨db, doff + t, none⟩ = some (.int .u8 b0) ∧ w'.cell? ⟨db, doff + (t + 1), none⟩ = some (.int .u8 b1) ∧ w'.cell? ⟨db, doff + ((t : Int) + 2).toNat, none⟩ = some (.int .u8 b2)) (first | exact ⟨q0, q1, q2⟩ | go_keep)
        (fail)
      have z0 : IntKind.i64.wrap b0 = b0 := IntWalk.i64_in _ (by omega)
      have z1 : IntKind.i64.wrap b1 = b1 := IntWalk.i64_in _ (by omega)
      have z2 : IntKind.i64.wrap (b0 * 256) = b0 * 256 := IntWalk.i64_in _ (by omega)
      have z3 : IntKind.i64.wrap (b0 * 256 + b1) = b0 * 256 + b1 := IntWalk.i64_in _ (by omega)
      rw [z0, z1, z2, z3]
      clear z0 z1 z2 z3
      have hfl : decide (b2 = 1) = (b2 == 1) := by simp [BEq.beq]
      rw [hfl] at HRF
      have hRW := (RW.begin wr (b0 * 256 + b1) (b2 == 1)).new (Keep.refl [] _).drew
      clear q0 q1 q2 i0 i1 j0 j1 k0 k1 j2 k2 hfl hb0 hb0' hb1 hb1' hb2 hb2'
      generalize (b2 == 1) = fl at *
      generalize b0 * 256 + b1 = pg at *
      rw [← cell_keep hRW.kp hdb2] at q3
      have hdb3 := Nat.lt_of_lt_of_le hdb2 hRW.kp.size
      have HW := Lib.hid hRW
      clear hRW
      generalize (wr.alloc (Obj.cells #[Value.int IntKind.i64 pg, Value.bool fl, Value.slice none 0 0] 46)).drew = w1 at *
      obtain ⟨pb, hpb⟩ : ∃ pb, wr.heap.size = pb := ⟨_, rfl⟩
      rw [hpb] at hdb2 HW
      simp only [hpb]
      have i3 : (0 : Int) ≤ t + 3 := by omega
      have q3' := q3
      rw [show t + 3 = ((t : Int) + 3).toNat by omega] at q3'
      go_wp2_with fail
      clear q3 q3' i3
      go_loopg [5, 8] d (fun gn s5 s8 wz => ∃ (k t2 : Nat) (ws : List Int) (wsv : Value), s5 = .int .i64 t2 ∧ s8 = .int .i64 k ∧ k ≤ d ∧ gn = d - k ∧ t2 ≤ N ∧ ws.length = k ∧ (∀ x ∈ ws, okW x) ∧ RW wr wz pb pg fl ws wsv ∧ refWs d (bs.drop (t + 4)) = (ws ++ (refWs (d - k) (bs.drop t2)).1, (refWs (d - k) (bs.drop t2)).2))
      case atStart => exact ⟨0, t + 4, [], _, by go_num, rfl, by omega, by omega, by omega, rfl, by simp, HW.out, rfl⟩
      case round =>
        clear HW
        obtain ⟨k, t2, ws, wsv, rfl, rfl, hk, rfl, ht2, hwl, hwk, hW, hrw⟩ := hrel
        obtain ⟨sa, sc, rfl⟩ := hW.row.slice
        rw [hwl] at hW
        by_cases hgk : k < d ∧ t2 + 7 < N
        · obtain ⟨hg3, hg4⟩ := hgk
          have hg3' : (k : Int) < d := by omega
          have hg4' : (t2 : Int) + 7 < N := by omega
          have HW := Lib.hid hW
          have HE := Lib.hid (And.intro hwl (And.intro hwk hrw))
          clear hW hwl hwk hrw
          go_wp2_with fail
          go_loopg [9, 10] 8 (fun gn s9 s10 wy => ∃ q : Nat, s9 = .int .u64 (val ((bs.drop t2).take q)) ∧ s10 = .int .i64 q ∧ q ≤ 8 ∧ gn = 8 - q ∧ wy = wr)
          case atStart => exact ⟨0, rfl, rfl, by omega, rfl, rfl⟩
          case round =>
            obtain ⟨q, rfl, rfl, hq, rfl, rfl⟩ := hrel
            by_cases hq8 : q < 8
            · obtain ⟨c, hc, hc0, hc1⟩ : ∃ c : Int, bs[t2 + q]? = some c ∧ 0 ≤ c ∧ c ≤ 255 := by
                have hx : bs[t2 + q]? = some (bs[t2 + q]'(by omega)) := List.getElem?_eq_getElem _
                have := HB.out _ (List.mem_of_getElem? hx)
                unfold okB at this
                exact ⟨_, hx, this⟩
              have hcc := HG.out.1 _ _ hc
              rw [← cell_keep (HQ.out.1.kp.trans HW.out.kp) HG.out.2] at hcc
              have hv := val_bd' q (bs.drop t2) (fun x hx => HB.out x (List.mem_of_mem_drop hx))
              have hvt := val_take q (bs.drop t2) c (by rw [List.getElem?_drop]; exact hc)
              have hp : (256 : Int) ^ q ≤ 256 ^ 7 := by
                have : (256 : Nat) ^ q ≤ 256 ^ 7 := Nat.pow_le_pow_right (by omega) (by omega)
                exact_mod_cast this
              generalize val ((bs.drop t2).take q) = V at *
              obtain ⟨hv0, hv1⟩ := hv
              have hv2 : V ≤ 72057594037927935 := by omega
              have HVT := Lib.hid hvt
              have m1 : (t2 : Int) + q < N := by omega
              have m0 : (0 : Int) ≤ (t2 : Int) + q := by omega
              have hcc' := hcc
              rw [show t2 + q = ((t2 : Int) + q).toNat by omega] at hcc'
              clear hv1 hp hvt hc
              go_wp2_with fail
              go_roundg (8 - (q + 1))
              case measure => omega
              case rel => exact ⟨q + 1, by rw [HVT.out], by go_num, by omega, rfl, rfl⟩
            · obtain rfl : q = 8 := by omega
              obtain ⟨c0, c1, c2, lp⟩ := HW.out.cells
              have hx64 : okW (val ((bs.drop t2).take 8)) := val_ok _ (fun x hx => HB.out x (List.mem_of_mem_drop (List.mem_of_mem_take hx))) (by rw [List.length_take, List.length_drop, hN]; omega)
              have hstep : refWs (d - k) (bs.drop t2) = (val ((bs.drop t2).take 8) :: (refWs (d - (k + 1)) (bs.drop (t2 + 8))).1, (refWs (d - (k + 1)) (bs.drop (t2 + 8))).2) := by
                rw [show d - k = d - (k + 1) + 1 by omega, refWs, if_pos (by rw [List.length_drop, hN]; omega), List.drop_drop]
              generalize val ((bs.drop t2).take 8) = x at *
              obtain ⟨va, vc, w12, happ, hW2, f2, g2, lp2⟩ := HW.out.push x (by rw [HE.out.1]; omega)
              rw [HE.out.1] at happ hW2
              have hrw2 : refWs d (bs.drop (t + 4)) = (ws ++ [x] ++ (refWs (d - (k + 1)) (bs.drop (t2 + 8))).1, (refWs (d - (k + 1)) (bs.drop (t2 + 8))).2) := by
                rw [HE.out.2.2, hstep]; simp
              have HN := Lib.hid (And.intro hW2 (And.intro hrw2 hx64))
              clear hW2 hrw2 hx64 hstep c0 c1 HW
              go_wp2_with (at_builtin; refine wpList_append_eq rfl _ _ _ rfl rfl rfl (happ _) ?_)
              clear happ
              go_roundg (d - (k + 1))
              case measure => omega
              case rel => exact ⟨k + 1, t2 + 8, _, _, by go_num, by go_num, by omega, rfl, by omega, by rw [List.length_append, HE.out.1]; rfl, fun y hy => by
                rcases List.mem_append.1 hy with hy | hy
                · exact HE.out.2.1 y hy
                · simp at hy; rw [hy]; exact HN.out.2.2, HN.out.1, HN.out.2.1⟩
        · have hend : refWs d (bs.drop (t + 4)) = (ws, bs.drop t2) := by
            rw [hrw]
            rcases Nat.lt_or_ge k d with h1 | h1
            · rw [refWs_stop (by rw [List.length_drop, hN]; omega)]; simp
            · obtain rfl : k = d := by omega
              rw [Nat.sub_self, refWs]; simp
          have hQ2 := HQ.out.1.new hW.kp
          obtain ⟨va, vc, w10, happ, hQ3⟩ := hQ2.push ⟨pg, fl, ws⟩ sa sc (by rw [hwl]; exact row_weak hW.row HQ.out.1.kp.size) hwk (by rw [HQ.out.2]; omega)
          simp only [hwl, HQ.out.2] at happ hQ3
          have hrf2 : refPs 17 (bs.drop 1) = ps ++ [⟨pg, fl, ws⟩] ++ refPs (17 - (K + 1)) (bs.drop t2) := by
            rw [HRF.out, Int.toNat_natCast, hend, show 17 - (K + 1) = 16 - K by omega]; simp
          obtain ⟨c0, c1, c2, lp⟩ := hW.cells
          have HN := Lib.hid (And.intro hQ3 hrf2)
          clear hQ3 hrf2 hQ2 hend hrw hW hwl hwk HRF
          have hKp := HQ.out.2
          rcases Nat.lt_or_ge k d with hlt | hlt
          all_goals
            try have hl2 : N ≤ t2 + 7 := by omega
            clear hgk
            go_wp2_with (at_builtin; refine wpList_append_eq rfl _ _ _ rfl rfl rfl (happ _) ?_)
            clear happ c0 c1 c2 lp
            go_roundg (18 - (K + 1))
            case measure => rw [hKp]; omega
            case rel => exact ⟨_, _, t2, rfl, rfl, by omega, by rw [List.length_append, hKp]; rfl, by rw [List.length_append, hKp]; simp; omega, HN.out.1, by rw [List.length_append, hKp]; exact HN.out.2⟩
    · have hend : refPs 17 (bs.drop 1) = ps := by
        rw [hrf]
        rcases Nat.lt_or_ge K 17 with h1 | h1
        · rw [refPs_short (by rw [List.length_drop, hN]; omega), List.append_nil]
        · obtain rfl : K = 17 := by omega
          simp [refPs]
      have hdd : dec bs = if right ps = true ∧ enc ps = bs then some ps else none := by
        rw [← HD.out, refDec, hend]
      have HQ := Lib.hid (And.intro hQ hdd)
      have hcall := rBytes wr _ ps hQ.prd
      clear hend hdd hrf HD
      have HC := Lib.hid hcall
      clear hcall hQ
      rcases Nat.lt_or_ge K 17 with hlt | hlt
      all_goals
        try have hl2 : N ≤ t + 3 := by omega
        clear hgo
        go_wp2_with fail
        refine HC.out.mono ?_
        rintro e w2 ⟨hk2, hres⟩
        have HK2 := Lib.hid (And.intro hk2 (HQ.out.1.new hk2))
        clear hk2 HC
        by_cases hr : right ps = true
        · rw [if_pos hr] at hres
          obtain ⟨cv, rfl, hcr⟩ := hres
          have hs1 := conv_str hcr
          have hs2 := conv_str (HR.out.keep (HQ.out.1.kp.trans HK2.out.1) (by simp))
          obtain ⟨ca, ccap, hce, _, _⟩ := hcr.1.len
          rw [List.length_map] at hce
          obtain ⟨M, hM⟩ : ∃ M, (enc ps).length = M := ⟨_, rfl⟩
          rw [hM] at hce
          subst hce
          clear hcr hM
          by_cases he : enc ps = bs
          · have HV := Lib.hid (HQ.out.2.trans (if_pos ⟨hr, he⟩))
            rw [he] at hs1
            clear he hr
            go_wp2_with fail
            go_ret2
            unfold ReadPost
            rw [HV.out]
            exact ⟨_, rfl, HK2.out.2.prd, HK2.out.2.kp⟩
          · have HV := Lib.hid (HQ.out.2.trans (if_neg (fun h => he h.2)))
            have hne : strOfNums (enc ps) ≠ strOfNums bs := fun h => he (strOfNums_inj (enc_bytes _) HB.out h)
            generalize strOfNums (enc ps) = s1 at *
            generalize strOfNums bs = s2 at *
            have hne2 : (s1.toList == s2.toList) = false := by
              rw [ByteArray.toList_eq, ByteArray.toList_eq]
              have : s1.data.toList ≠ s2.data.toList := fun h => hne (ByteArray.ext (Array.toList_inj.1 h))
              simpa using this
            clear he hr hne
            go_wp2_with fail
            go_ret2
            unfold ReadPost
            rw [HV.out]
            exact ⟨by rfl, HK2.out.2.kp⟩
        · rw [if_neg hr] at hres
          subst hres
          have HV := Lib.hid (HQ.out.2.trans (if_neg (fun h => hr h.1)))
          clear hr
          go_wp2_with fail
          go_ret2
          unfold ReadPost
          rw [HV.out]
          exact ⟨by rfl, HK2.out.2.kp⟩
end Go.Proofs.Ytajlpicdkdeceaa
