import Derived.Test.YtajlpicdkdeceaaIh
import Derived.Deep.RegionHeld3
namespace Go.Proofs.Ytajlpicdkdeceaa
open Go.RowKit
set_option linter.unusedSimpArgs false
set_option linter.unusedVariables false
attribute [local go_sem] ob_alloc ob_drew ob_drewN ob_setCell ob_setBlock objSet_cells obMap_map obClock_map isMapI_map keyI_mk findI_nil findI_cons lookRes_some lookRes_none lookRes_some' lookRes_none' setBlock_alloc mapPut
attribute [local go_sem ↓] Go.wp_at_zero Go.wp_at_succ

def u8E : Enc Int 1 := ⟨fun i => [.int .u8 i], fun _ => rfl, fun i u hu => by simp at hu; subst hu; rfl⟩
theorem u8E_flat (L : List Int) : u8E.flat L = L.map (Value.int .u8) := by
  induction L with
  | nil => rfl
  | cons a L ih =>
    simp only [Enc.flat, List.flatMap_cons, List.map_cons] at ih ⊢
    rw [ih]; rfl
theorem info5 : (Try.prog.info? 5).map (fun i => (i.zero, i.size, i.bytes)) = some (some (.int .u8 0), 1, 1) := by kernel_rfl
theorem rd_u8 {w : World} {B : Nat} {v : Value} {bs : List Int} (h : RowE u8E 5 w B v bs) (hw : ∀ x ∈ bs, okB x) : RdI w .u8 v bs := by
  have h1 := Rd.own (show w.ownsRow B 5 1 v bs.length (u8E.flat bs) from h)
  rw [u8E_flat] at h1
  refine ⟨h1, fun x hx => ?_⟩
  have := hw x hx
  unfold okB at this
  simp [Lit.wf, IntKind.min, IntKind.max, IntKind.bits, IntKind.signed]
  omega
/-- bytes in work -/
structure BW (w0 w : World) (bv : Value) (bs : List Int) : Prop where
  row : RowE u8E 5 w w0.heap.size bv bs
  kp : Keep [] w0 w
section
variable {w0 w w' : World} {bv : Value} {bs : List Int}
theorem BW.new (h : BW w0 w bv bs) (hk : Keep [] w w') : BW w0 w' bv bs := ⟨h.row.keep hk (by simp), h.kp.trans hk⟩
theorem BW.add (h : BW w0 w bv bs) (ys : List Int) (hn : bs.length + ys.length ≤ 100000) (cs : Array Value) (hcs : cs = (ys.map (Value.int .u8)).toArray) :
    ∃ va vc w2, (∀ ty, (Builtin.append_ #[23, 23] ty #[bv, .slice (some ⟨w.heap.size, 0, none⟩) ys.length ys.length]).run Try.prog (w.alloc (.cells cs 5)) = .ok (.slice va (bs.length + ys.length) vc) w2) ∧
      BW w0 w2 (.slice va (bs.length + ys.length) vc) (bs ++ ys) ∧ ∀ b o, ob w b = some o → (∀ cs f, o ≠ .cells cs 5 f) → ob w2 b = some o := by
  subst hcs
  have kA : Keep [] w (w.alloc (.cells (ys.map (Value.int .u8)).toArray 5)) := (Keep.refl _ _).alloc _
  have hsz := h.kp.size
  have ho := al_new w (.cells (ys.map (Value.int .u8)).toArray 5) rfl
  obtain ⟨va, vc, w2, g1, g2, g3, g4⟩ := (h.row.keep kA (by simp)).cat (P := Try.prog) Try.underlying23 info5 rfl (by omega) ys ⟨w.heap.size, 0, none⟩ ys.length (fun j u hj => by
    rw [u8E_flat] at hj
    rw [add_mk, Nat.zero_add, cell_of_ob ho]
    simpa using hj) (by omega) (by omega) (by simp; omega)
  have hge := fun b hb => ownBlock_ge h.row (b := b) hb
  have k2 : Keep bv.ownBlock.toList w w2 := (kA.mono (by simp)).trans g3
  refine ⟨va, vc, w2, g1, ⟨g2, h.kp.andThen k2 (fun b hb => by simp only [Option.mem_toList] at hb; exact .inr (hge b hb))⟩, fun b o hb hne => k2.kp hb (fun hm => ?_)⟩
  simp only [Option.mem_toList] at hm
  obtain ⟨_, h4 | ⟨g, cap, cur, hv, _, hg, _⟩⟩ := h.row
  · rw [h4.1] at hm; cases hm
  · rw [hv] at hm
    simp [Value.ownBlock] at hm
    subst hm
    have := hb.symm.trans (show ob w g = _ from hg)
    simp at this
    exact hne _ _ this
end
theorem encW_at (x : Int) : ∀ q, q < 8 → (encW x)[q]? = some (x / 2 ^ (56 - 8 * q) % 256)
  | 0, _ | 1, _ | 2, _ | 3, _ | 4, _ | 5, _ | 6, _ => rfl
  | 7, _ => by simp [encW]
theorem enc_bytes (l : List PB) : ∀ x ∈ enc l, okB x := by
  intro x hx
  unfold okB
  simp only [enc, List.mem_cons, encPs, List.mem_flatMap, encP, encWs, List.mem_append, List.mem_nil_iff, or_false, encW] at hx
  rcases hx with rfl | ⟨p, hp, (rfl | rfl | rfl | rfl) | ⟨y, hy, hx⟩⟩
  · omega
  · omega
  · omega
  · split <;> omega
  · omega
  · rcases hx with rfl | rfl | rfl | rfl | rfl | rfl | rfl | rfl <;> omega
def BytesPost (w : World) (l : List PB) : Ending → World → Prop := fun e w' => Keep [] w w' ∧
  if right l = true then ∃ v, e = .returned (.tuple #[v, .int .i64 0]) ∧ RdI w' .u8 v (enc l) else e = .returned (.tuple #[.slice none 0 0, .int .i64 1])
set_option maxRecDepth 100000 in
set_option maxHeartbeats 4000000 in
theorem pBytes (w : World) (v : Value) (l : List PB) (h : PRd w v l) : Calls Try.prog 9 #[v] w (BytesPost w l) := by
  have HP := Lib.hid h
  have HR := Lib.hid (bRight w v l h)
  obtain ⟨a, cap, rfl, hc1, hc2⟩ := h.len
  unfold maxLen at hc2
  clear h
  obtain ⟨n, hn⟩ : ∃ n, l.length = n := ⟨_, rfl⟩
  rw [hn] at hc1 ⊢
  rw [hn] at HP HR
  go_enter Try.func9, Try.ntmps9
  go_wp2_with fail
  refine HR.out.mono ?_
  rintro _ w1 ⟨rfl, hk⟩
  have HPk := Lib.hid hk
  clear hk HR
  by_cases hr : right l = true
  · obtain ⟨hp1, hp2, hp3⟩ := right_ok hr
    have HO := Lib.hid (And.intro hr hp1)
    clear hp1
    rw [hn] at hp2 hp3
    rw [hr]
    clear hr
    go_wp2_with fail
    have hB0 : BW w (w1.alloc (.cells #[.int .u8 n] 5)) (.slice (some ⟨w1.heap.size, 0, none⟩) 1 1) [(n : Int)] :=
      ⟨⟨rfl, .inr ⟨w1.heap.size, 1, #[.int .u8 n], rfl, HPk.out.size, al_new w1 (.cells #[.int .u8 n] 5) rfl, by simp, by unfold maxLen; simp, rfl, rfl⟩⟩, HPk.out.alloc _⟩
    have HB := Lib.hid hB0
    clear hB0 HPk
    generalize w1.alloc (.cells #[.int .u8 n] 5) = w2 at *
    generalize Value.slice (some ⟨w1.heap.size, 0, none⟩) 1 1 = bv0 at *
    go_loopg [4, 19] n (fun gn s4 s19 wr => ∃ (k : Nat) (bv : Value) (bs : List Int), bv = s4 ∧ s19 = .int .i64 k ∧ k ≤ n ∧ gn = n - k ∧ BW w wr bv bs ∧ bs.length ≤ 1 + 132 * k ∧ bs = (n : Int) :: encPs (l.take k))
    case atStart => exact ⟨0, _, _, rfl, rfl, by omega, by omega, HB.out, by simp, by simp [encPs]⟩
    case round =>
      obtain ⟨k, bv, bs, rfl, rfl, hk, rfl, hB, hbl, hbs⟩ := hrel
      obtain ⟨N, hN⟩ : ∃ N, bs.length = N := ⟨_, rfl⟩
      rw [hN] at hbl
      by_cases hlt : k < n
      · have hx : l[k]? = some (l[k]'(by omega)) := List.getElem?_eq_getElem _
        generalize (l[k]'(by omega)) = p at hx
        have hpk := HO.out.2 p (List.mem_of_getElem? hx)
        obtain ⟨b, off, cap', sa, sc, hveq, _, _, hb, q0, q1, q2, hws, hs1, hs2⟩ := HP.out.at hx
        simp only [Value.slice.injEq, hn, true_and] at hveq
        obtain ⟨rfl, rfl⟩ := hveq
        rw [← cell_keep hB.kp hb] at q0 q1 q2
        have hb := Nat.lt_of_lt_of_le hb hB.kp.size
        unfold okP at hpk
        have hA : Keep [] wr (wr.alloc (.cells #[.int .i64 p.pg, .bool p.wr, .slice sa p.ws.length sc] 42)) := (Keep.refl _ _).alloc _
        have HA := Lib.hid (And.intro (hB.new hA) (And.intro (al_new wr (.cells #[.int .i64 p.pg, .bool p.wr, .slice sa p.ws.length sc] 42) rfl) hws))
        have HX := Lib.hid (And.intro hx hbs)
        obtain ⟨pg, pwr, ws⟩ := p
        simp only at *
        obtain ⟨m, hm⟩ : ∃ m, ws.length = m := ⟨_, rfl⟩
        rw [hm] at q2 hpk HA hs1
        obtain ⟨hp0, hp1, hm0, hm1⟩ := hpk
        clear hB hws hA hbs hx
        go_upto_region 7 with fail
        obtain ⟨hB, ho, hws⟩ := HA.out
        clear HA
        generalize wr.alloc (.cells #[.int .i64 pg, .bool pwr, .slice sa m sc] 42) = w3 at *
        generalize wr.heap.size = pb at *
        have c0 := cell_of_ob ho 0
        have c1 := cell_of_ob ho 1
        have c2 := cell_of_ob ho 2
        have lp := ob_lt ho
        simp only [List.getElem?_toArray, List.getElem?_cons_zero, List.getElem?_cons_succ] at c0 c1 c2
        have HF := Lib.hid (pFlag w3.drew pwr)
        obtain ⟨fl, hfl⟩ : ∃ fl : Int, (if pwr = true then (1 : Int) else 0) = fl := ⟨_, rfl⟩
        rw [hfl] at HF
        have HFL := Lib.hid hfl
        clear hfl
        obtain ⟨va, vc, w10, happ, hB2, hob⟩ := (hB.new (Keep.refl _ _).drew).add [IntKind.u8.wrap (pg / 256), IntKind.u8.wrap pg, fl, IntKind.u8.wrap (m : Int)] (by simp; omega) _ rfl
        have hlen : (bs ++ [IntKind.u8.wrap (pg / 256), IntKind.u8.wrap pg, fl, IntKind.u8.wrap (m : Int)]).length = N + 4 := by rw [List.length_append, hN]; rfl
        have hbs4 : bs ++ [IntKind.u8.wrap (pg / 256), IntKind.u8.wrap pg, fl, IntKind.u8.wrap (m : Int)] = (n : Int) :: encPs (l.take k) ++ [pg / 256 % 256, pg % 256, (if pwr = true then 1 else 0), (m : Int) % 256] := by
          rw [HX.out.2, HFL.out]; rfl
        rw [hN] at happ hB2
        simp only [List.length_cons, List.length_nil, Nat.reduceAdd] at happ hB2
        generalize bs ++ [IntKind.u8.wrap (pg / 256), IntKind.u8.wrap pg, fl, IntKind.u8.wrap (m : Int)] = bs4 at *
        have HX4 := Lib.hid (And.intro hlen (And.intro hbs4 HX.out.1))
        clear hlen hbs4 HX
        have ho2 := hob pb _ ho (by intro cs f; simp)
        have d0 := cell_of_ob ho2 0
        have d1 := cell_of_ob ho2 1
        have d2 := cell_of_ob ho2 2
        have ld := ob_lt ho2
        simp only [List.getElem?_toArray, List.getElem?_cons_zero, List.getElem?_cons_succ] at d0 d1 d2
        have hke := hB.new (Keep.refl _ _).drew
        have HB2 := Lib.hid hB2
        have HWS := Lib.hid hws
        clear hws
        clear hB2 ho2 hob ho hke
        clear hB
        go_region_held3 (fun w' => w'.cell? ⟨pb, 0, none⟩ = some (.int .i64 pg) ∧ w'.cell? ⟨pb, 1, none⟩ = some (.bool pwr) ∧ w'.cell? ⟨pb, 2, none⟩ = some (.slice sa m sc)) (first | exact ⟨c0, c1, c2⟩ | exact ⟨d0, d1, d2⟩ | go_keep)
          (first | (refine step_append_eq rfl _ _ _ rfl rfl rfl (happ _) ?_) | (go_at_call 17; refine HF.out.mono ?_; rintro _ w9 ⟨rfl, rfl⟩))
        clear c0 c1 c2 d0 d1 happ lp HF q0 q1 q2
        generalize IntKind.u8.wrap (pg / 256) = y1
        generalize IntKind.u8.wrap pg = y2
        generalize IntKind.u8.wrap (m : Int) = y3
        go_upto_region 9 with fail
        go_loopg [4, 43] m (fun gn s4 s43 wr => ∃ (j : Nat) (bv : Value) (bs : List Int), bv = s4 ∧ s43 = .int .i64 j ∧ j ≤ m ∧ gn = m - j ∧ BW w wr bv bs ∧ bs.length = N + 4 + 8 * j ∧ bs = bs4 ++ encWs (ws.take j))
        case atStart => exact ⟨0, _, _, rfl, rfl, by omega, by omega, HB2.out, HX4.out.1, by simp [encWs]⟩
        case round =>
          clear HB2
          obtain ⟨j, bv, bs, rfl, rfl, hj, rfl, hB, hbl2, hbs2⟩ := hrel
          by_cases hjm : j < m
          · have hx : ws[j]? = some (ws[j]'(by omega)) := List.getElem?_eq_getElem _
            generalize (ws[j]'(by omega)) = x at hx
            have hxw : okW x := by
              have := HWS.out.2 x (List.mem_of_getElem? hx)
              unfold okW
              exact u64_bd this
            obtain ⟨wb, wo, wcap, hveq, _, _, hX⟩ := HWS.out.1.pos (by rw [List.length_map]; omega)
            rw [List.length_map, hm] at hveq
            simp only [Value.slice.injEq, true_and] at hveq
            obtain ⟨rfl, rfl⟩ := hveq
            have hxc := hX j _ (by rw [List.getElem?_map, hx]; rfl)
            have hwb := World.block_lt_of_cell? (a := ⟨wb, wo + j, none⟩) _ hxc
            rw [← cell_keep hB.kp hwb] at hxc
            have hwb := Nat.lt_of_lt_of_le hwb hB.kp.size
            have HB3 := Lib.hid hB
            have HX5 := Lib.hid (And.intro hbl2 (And.intro hbs2 hx))
            clear hB hbl2 hbs2 hX hx
            go_upto_region 12 with fail
            go_loopg [4, 9] 8 (fun gn s4 s9 wr => ∃ (q : Nat) (bv : Value) (bs : List Int), bv = s4 ∧ s9 = .int .i64 (56 - 8 * (q : Int)) ∧ q ≤ 8 ∧ gn = 8 - q ∧ BW w wr bv bs ∧ bs.length = N + 4 + 8 * j + q ∧ bs = bs4 ++ encWs (ws.take j) ++ (encW x).take q)
            case atStart => exact ⟨0, _, _, rfl, rfl, by omega, by omega, HB3.out, by rw [HX5.out.1]; rfl, by rw [HX5.out.2.1]; simp⟩
            case round =>
              clear HB3
              obtain ⟨q, bv, bs, rfl, rfl, hq, rfl, hB, hbl3, hbs3⟩ := hrel
              by_cases hq8 : q < 8
              · obtain ⟨sl, scl, rfl⟩ := hB.row.slice
                rw [hbl3] at hB ⊢
                have hq9 : (0 : Int) ≤ 56 - 8 * (q : Int) := by omega
                obtain ⟨va9, vc9, w12, happ, hB4, -⟩ := hB.add [x / 2 ^ (56 - 8 * q) % 256] (by rw [hbl3]; simp; omega) _ rfl
                have hbs5 : bs ++ [x / 2 ^ (56 - 8 * q) % 256] = bs4 ++ encWs (ws.take j) ++ (encW x).take (q + 1) := by
                  rw [hbs3, List.take_add_one, encW_at x q hq8]; simp
                rw [hbl3] at happ hB4
                simp only [List.length_cons, List.length_nil, Nat.reduceAdd] at happ hB4
                have HB5 := Lib.hid (And.intro hB4 (And.intro hbs5 hbl3))
                clear hB4 hbs5 hB hbl3 hbs3
                go_wp2_with (at_builtin; refine wpList_append_eq rfl _ _ _ rfl rfl rfl (happ _) ?_)
                clear happ
                go_roundg (8 - (q + 1))
                case measure => omega
                case rel => exact ⟨q + 1, _, _, rfl, by go_num, by omega, rfl, HB5.out.1, by rw [List.length_append, HB5.out.2.2]; rfl, HB5.out.2.1⟩
              · obtain rfl : q = 8 := by omega
                have hbs5 : bs = bs4 ++ encWs (ws.take (j + 1)) := by
                  have e : ws.take (j + 1) = ws.take j ++ [x] := by rw [List.take_add_one, HX5.out.2.2]; rfl
                  rw [hbs3, e]
                  simp only [encWs, List.flatMap_append, List.flatMap_cons, List.flatMap_nil, List.append_nil]
                  rw [List.append_assoc]
                  rfl
                have HB5 := Lib.hid (And.intro hB (And.intro hbs5 hbl3))
                clear hbs5 hB hbl3 hbs3
                go_wp2_with fail
                go_roundg (m - (j + 1))
                case measure => omega
                case rel => exact ⟨j + 1, _, _, rfl, by go_num, by omega, rfl, HB5.out.1, by rw [HB5.out.2.2]; omega, HB5.out.2.1⟩
          · obtain rfl : j = m := by omega
            have hbs5 : bs = (n : Int) :: encPs (l.take (k + 1)) := by
              rw [hbs2, List.take_of_length_le (by omega), HX4.out.2.1, List.take_add_one, HX4.out.2.2]
              simp only [encPs, List.flatMap_append, Option.toList, List.flatMap_cons, List.flatMap_nil, List.append_nil, encP, hm]
              simp
            have HB5 := Lib.hid (And.intro hB (And.intro hbs5 hbl2))
            clear hbs5 hB hbl2 hbs2
            go_wp2_with fail
            go_roundg (n - (k + 1))
            case measure => omega
            case rel => exact ⟨k + 1, _, _, rfl, by go_num, by omega, rfl, HB5.out.1, by rw [HB5.out.2.2]; omega, HB5.out.2.1⟩
      · obtain rfl : k = n := by omega
        have hen : bs = enc l := by rw [hbs, List.take_of_length_le (by omega), enc, hn]; congr 1; omega
        have HF : Hid (BytesPost w l (.returned (.tuple #[bv, .int .i64 0])) wr) := Lib.hid ⟨hB.kp, by rw [if_pos HO.out.1]; exact ⟨_, rfl, rd_u8 (hen ▸ hB.row) (enc_bytes l)⟩⟩
        clear hen hB hbs
        go_wp2_with fail
        go_ret2
        exact HF.out
  · have hr0 : right l = false := by simpa using hr
    have HO := Lib.hid hr0
    rw [hr0]
    clear hr0 hr
    go_wp2_with fail
    go_ret2
    refine ⟨HPk.out, ?_⟩
    rw [HO.out]
    rfl
end Go.Proofs.Ytajlpicdkdeceaa
