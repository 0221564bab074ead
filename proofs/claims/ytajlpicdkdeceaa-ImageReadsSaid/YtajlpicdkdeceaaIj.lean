import Derived.Test.YtajlpicdkdeceaaIb
import Derived.Deep.RegionHeld3
import Derived.BigQuiet
namespace Go.Proofs.Ytajlpicdkdeceaa
open Go.RowKit
set_option linter.unusedSimpArgs false
set_option linter.unusedVariables false
attribute [local go_sem] ob_alloc ob_drew ob_drewN ob_setCell ob_setBlock objSet_cells obMap_map obClock_map isMapI_map keyI_mk findI_nil findI_cons lookRes_some lookRes_none lookRes_some' lookRes_none' setBlock_alloc mapPut

theorem info46 : (Try.prog.info? 46).map (fun i => (i.zero, i.size, i.bytes)) = some (some (.agg #[.int .i64 0, .bool false, .slice none 0 0]), 3, 40) := by kernel_rfl
/-- raw parts in a row of the call's own -/
structure TW (w0 w : World) (v : Value) (ps : List PB) : Prop where
  row : ∃ rs : List RT, RowE rtE 46 w w0.heap.size v rs ∧ rs.length = ps.length ∧ ∀ (i : Nat) r p, rs[i]? = some r → ps[i]? = some p → r.is w0 p
  kp : Keep [] w0 w
section
variable {w0 w w' : World} {v : Value} {ps : List PB}
theorem TW.nil (w : World) : TW w w (.slice none 0 0) [] := ⟨⟨[], RowE.nil _ _, rfl, by simp⟩, Keep.refl _ _⟩
theorem TW.new (h : TW w0 w v ps) (hk : Keep [] w w') : TW w0 w' v ps := by
  obtain ⟨⟨rs, h1, h2, h3⟩, h4⟩ := h
  exact ⟨⟨rs, h1.keep hk (by simp), h2, h3⟩, h4.trans hk⟩
theorem TW.slice (h : TW w0 w v ps) : ∃ sl scl, v = .slice sl ps.length scl := by
  obtain ⟨⟨rs, h1, h2, h3⟩, h4⟩ := h
  obtain ⟨sl, scl, e⟩ := h1.slice
  rw [h2] at e
  exact ⟨sl, scl, e⟩
theorem TW.prd (h : TW w0 w v ps) : PRd w v ps := by
  obtain ⟨⟨rs, h1, h2, h3⟩, hk⟩ := h
  refine ⟨rs, h2, ?_, fun i r p hr hp => (h3 i r p hr hp).keep hk⟩
  obtain ⟨a, cap, rfl⟩ := h1.slice
  have hb := h1
  obtain ⟨_, h4 | ⟨g, cap', cur, hv, _, hg, hn, hm, _⟩⟩ := hb
  · obtain ⟨h4, h5⟩ := h4
    simp only [Value.slice.injEq] at h4
    obtain ⟨rfl, h6, rfl⟩ := h4
    refine ⟨none, 0, rfl, by omega, Nat.zero_le _, fun i r hr => ?_⟩
    have := (List.getElem?_eq_some_iff.1 hr).1; omega
  · simp only [Value.slice.injEq] at hv
    obtain ⟨rfl, _, rfl⟩ := hv
    refine ⟨_, cap, rfl, hn, hm, fun i r hr => ?_⟩
    obtain ⟨g', c', e1, _, e3, _, _, hX⟩ := h1.get hr
    simp only [Value.slice.injEq, Option.some.injEq, Addr.mk.injEq, and_true, true_and] at e1
    obtain ⟨rfl, rfl⟩ := e1
    refine ⟨g, 0, rfl, e3, ?_, ?_, ?_⟩
    · have := hX 0 _ rfl; rw [Nat.add_zero] at this; rw [Nat.zero_add]; exact this
    · have := hX 1 _ rfl; rw [Nat.zero_add]; exact this
    · have := hX 2 _ rfl; rw [Nat.zero_add]; exact this
theorem TW.push (h : TW w0 w v ps) (p : PB) (sa : Option Addr) (sc : Nat) (hp : RdI w0 .u64 (.slice sa p.ws.length sc) p.ws) (hl : ps.length ≤ 300) :
    ∃ va vc w2, (∀ ty, (Builtin.append_ #[30, 30] ty #[v, .slice (some ⟨w.heap.size, 0, none⟩) 1 1]).run Try.prog (w.alloc (.cells #[.int .i64 p.pg, .bool p.wr, .slice sa p.ws.length sc] 46)) = .ok (.slice va (ps.length + 1) vc) w2) ∧
      TW w0 w2 (.slice va (ps.length + 1) vc) (ps ++ [p]) := by
  obtain ⟨⟨rs, h1, h2, h3⟩, hk⟩ := h
  have kA : Keep [] w (w.alloc (.cells #[.int .i64 p.pg, .bool p.wr, .slice sa p.ws.length sc] 46)) := (Keep.refl _ _).alloc _
  have hsz := hk.size
  obtain ⟨va, vc, w2, g1, g2, g3, g4⟩ := (h1.keep kA (by simp)).push (P := Try.prog) Try.underlying30 info46 rfl (by omega) ⟨p.pg, p.wr, sa, p.ws.length, sc⟩ (al_new w (.cells #[.int .i64 p.pg, .bool p.wr, .slice sa p.ws.length sc] 46) rfl) 1 (by omega) (by omega) (by simp; omega)
  rw [h2] at g1 g2 g4
  have k2 : Keep v.ownBlock.toList w w2 := (kA.mono (by simp)).trans g3
  refine ⟨va, vc, w2, g1, ⟨⟨_, g2, by simp [h2], fun i q p' hq hp' => ?_⟩, hk.andThen k2 (fun b hb => by simp only [Option.mem_toList] at hb; exact .inr (ownBlock_ge h1 hb))⟩⟩
  rcases Nat.lt_or_ge i rs.length with hi | hi
  · rw [List.getElem?_append_left hi] at hq
    rw [List.getElem?_append_left (by omega)] at hp'
    exact h3 i q p' hq hp'
  · rw [List.getElem?_append_right hi] at hq
    rw [List.getElem?_append_right (by omega)] at hp'
    rw [h2] at hq
    cases hn : i - ps.length with
    | zero =>
      rw [hn] at hq hp'
      simp at hq hp'
      subst hq hp'
      exact ⟨rfl, rfl, hp⟩
    | succ n => rw [hn] at hp'; simp at hp'
end
set_option maxRecDepth 100000 in
set_option maxHeartbeats 4000000 in
theorem pTo (w : World) (v : Value) (l : List PB) (h : PRd w v l) (hl : l.length ≤ 30) : Calls Try.prog 11 #[v] w fun e w' => ∃ v', e = .returned v' ∧ PRd w' v' l ∧ Keep [] w w' := by
  have HP := Lib.hid h
  obtain ⟨a, cap, rfl, hc1, hc2⟩ := h.len
  unfold maxLen at hc2
  clear h
  obtain ⟨n, hn⟩ : ∃ n, l.length = n := ⟨_, rfl⟩
  rw [hn] at hc1 hl ⊢
  rw [hn] at HP
  go_enter Try.func11, Try.ntmps11
  go_wp2_with fail
  go_loopg [3, 4] n (fun gn s3 s4 wr => ∃ (k : Nat) (v : Value), v = s3 ∧ s4 = .int .i64 k ∧ k ≤ n ∧ gn = n - k ∧ TW w wr v (l.take k))
  case atStart => exact ⟨0, _, rfl, rfl, by omega, by omega, TW.nil w⟩
  case round =>
    obtain ⟨k, v, rfl, rfl, hk, rfl, hT⟩ := hrel
    by_cases hlt : k < n
    · have hx : l[k]? = some (l[k]'(by omega)) := List.getElem?_eq_getElem _
      generalize (l[k]'(by omega)) = p at hx
      obtain ⟨b, off, cap', sa, sc, hveq, _, _, hb, q0, q1, q2, hws, hs1, hs2⟩ := HP.out.at hx
      simp only [Value.slice.injEq, hn, true_and] at hveq
      obtain ⟨rfl, rfl⟩ := hveq
      have htl : (l.take k).length = k := by rw [List.length_take]; omega
      have hts : l.take (k + 1) = l.take k ++ [p] := by rw [List.take_add_one, hx]; rfl
      obtain ⟨va, vc, w10, happ, hT2⟩ := (hT.new (Keep.refl _ _).drew).push p sa sc hws (by omega)
      have d0 := q0
      have d1 := q1
      have d2 := q2
      rw [← cell_keep hT2.kp hb] at d0 d1 d2
      rw [← cell_keep hT.kp hb] at q0 q1 q2
      have hb := Nat.lt_of_lt_of_le hb hT.kp.size
      obtain ⟨sl, scl, rfl⟩ := hT.slice
      rw [htl] at happ hT2 hT
      rw [htl]
      rw [← hts] at hT2
      have HT := Lib.hid hT2
      clear hT hT2 hts htl hx hws
      obtain ⟨pg, pwr, ws⟩ := p
      simp only at *
      generalize ws.length = m at *
      go_wp2_with fail
      go_region_held3 (fun w' => w'.cell? ⟨b, off + k * 3, none⟩ = some (.int .i64 pg) ∧ w'.cell? ⟨b, off + k * 3 + 1, none⟩ = some (.bool pwr) ∧ w'.cell? ⟨b, off + k * 3 + 2, none⟩ = some (.slice sa m sc)) (first | exact ⟨q0, q1, q2⟩ | exact ⟨d0, d1, d2⟩ | go_keep)
        (first | (refine step_append_eq rfl _ _ _ rfl rfl rfl (happ _) ?_))
      clear happ
      go_wp2_with fail
      go_roundg (n - (k + 1))
      case measure => omega
      case rel => exact ⟨k + 1, _, rfl, by go_num, by omega, rfl, HT.out⟩
    · obtain rfl : k = n := by omega
      rw [List.take_of_length_le (by omega)] at hT
      have HT := Lib.hid (And.intro hT.prd hT.kp)
      clear hT
      go_wp2_with fail
      go_ret
      exact ⟨_, rfl, HT.out⟩
end Go.Proofs.Ytajlpicdkdeceaa
