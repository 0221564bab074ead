import Derived.Test.YtajlpicdkdeceaaIp
import Derived.Test.YtajlpicdkdeceaaIj
import Derived.Test.YtajlpicdkdeceaaIi
namespace Go.Proofs.Ytajlpicdkdeceaa
open Go.RowKit
set_option linter.unusedSimpArgs false
set_option linter.unusedVariables false
attribute [local go_sem] ob_alloc ob_drew ob_drewN ob_setCell ob_setBlock objSet_cells obMap_map obClock_map isMapI_map keyI_mk findI_nil findI_cons lookRes_some lookRes_none lookRes_some' lookRes_none' setBlock_alloc mapPut
attribute [local go_sem ↓] Go.wp_at_zero Go.wp_at_succ

set_option maxRecDepth 100000 in
set_option maxHeartbeats 4000000 in
theorem rBytes (w : World) (v : Value) (l : List PB) (h : PRd w v l) : Calls Try.prog 10 #[v] w (BytesPost w l) := by
  have HP := Lib.hid h
  have HR := Lib.hid (rRight w v l h)
  obtain ⟨a, cap, rfl, hc1, hc2⟩ := h.len
  unfold maxLen at hc2
  clear h
  obtain ⟨n, hn⟩ : ∃ n, l.length = n := ⟨_, rfl⟩
  rw [hn] at hc1 ⊢
  rw [hn] at HP HR
  go_enter Try.func10, Try.ntmps10
  go_wp2_with fail
  refine HR.out.mono ?_
  rintro _ w1 ⟨rfl, hk⟩
  have HPk := Lib.hid hk
  clear hk HR
  by_cases hr : right l = true
  · obtain ⟨hp1, hp2, hp3⟩ := right_ok hr
    have HO := Lib.hid (And.intro hr hp1)
    clear hp1
    rw [hn] at hp2 hp3
    rw [hr]
    clear hr
    go_wp2_with fail
    have hB0 : BW w (w1.alloc (.cells #[.int .u8 n] 5)) (.slice (some ⟨w1.heap.size, 0, none⟩) 1 1) [(n : Int)] :=
      ⟨⟨rfl, .inr ⟨w1.heap.size, 1, #[.int .u8 n], rfl, HPk.out.size, al_new w1 (.cells #[.int .u8 n] 5) rfl, by simp, by unfold maxLen; simp, rfl, rfl⟩⟩, HPk.out.alloc _⟩
    have HB := Lib.hid hB0
    clear hB0 HPk
    generalize w1.alloc (.cells #[.int .u8 n] 5) = w2 at *
    generalize Value.slice (some ⟨w1.heap.size, 0, none⟩) 1 1 = bv0 at *
    go_loopg [4, 5] n (fun gn s4 s5 wr => ∃ (k : Nat) (bv : Value) (bs : List Int), bv = s4 ∧ s5 = .int .i64 k ∧ k ≤ n ∧ gn = n - k ∧ BW w wr bv bs ∧ bs.length ≤ 1 + 132 * k ∧ bs = (n : Int) :: encPs (l.take k))
    case atStart => exact ⟨0, _, _, rfl, rfl, by omega, by omega, HB.out, by simp, by simp [encPs]⟩
    case round =>
      obtain ⟨k, bv, bs, rfl, rfl, hk, rfl, hB, hbl, hbs⟩ := hrel
      obtain ⟨N, hN⟩ : ∃ N, bs.length = N := ⟨_, rfl⟩
      rw [hN] at hbl
      by_cases hlt : k < n
      · have hx : l[k]? = some (l[k]'(by omega)) := List.getElem?_eq_getElem _
        generalize (l[k]'(by omega)) = p at hx
        have hpk := HO.out.2 p (List.mem_of_getElem? hx)
        obtain ⟨b, off, cap', sa, sc, hveq, _, _, hb, q0, q1, q2, hws, hs1, hs2⟩ := HP.out.at hx
        simp only [Value.slice.injEq, hn, true_and] at hveq
        obtain ⟨rfl, rfl⟩ := hveq
        rw [← cell_keep hB.kp hb] at q0 q1 q2
        have hb := Nat.lt_of_lt_of_le hb hB.kp.size
        unfold okP at hpk
        have hA : Keep [] wr (wr.alloc (.cells #[.int .i64 p.pg, .bool p.wr, .slice sa p.ws.length sc] 46)) := (Keep.refl _ _).alloc _
        have HA := Lib.hid (And.intro (hB.new hA) (And.intro (al_new wr (.cells #[.int .i64 p.pg, .bool p.wr, .slice sa p.ws.length sc] 46) rfl) hws))
        have HX := Lib.hid (And.intro hx hbs)
        obtain ⟨pg, pwr, ws⟩ := p
        simp only at *
        obtain ⟨m, hm⟩ : ∃ m, ws.length = m := ⟨_, rfl⟩
        rw [hm] at q2 hpk HA hs1
        obtain ⟨hp0, hp1, hm0, hm1⟩ := hpk
        clear hB hws hA hbs hx
        go_upto_region 8 with fail
        obtain ⟨hB, ho, hws⟩ := HA.out
        clear HA
        generalize wr.alloc (.cells #[.int .i64 pg, .bool pwr, .slice sa m sc] 46) = w3 at *
        generalize wr.heap.size = pb at *
        have c0 := cell_of_ob ho 0
        have c1 := cell_of_ob ho 1
        have c2 := cell_of_ob ho 2
        have lp := ob_lt ho
        simp only [List.getElem?_toArray, List.getElem?_cons_zero, List.getElem?_cons_succ] at c0 c1 c2
        obtain ⟨fl, hfl⟩ : ∃ fl : Int, (if pwr = true then (1 : Int) else 0) = fl := ⟨_, rfl⟩
        have HFL := Lib.hid hfl
        have hfl : (pwr = true ∧ fl = 1) ∨ (pwr = false ∧ fl = 0) := by cases pwr <;> simp at hfl <;> simp [hfl]
        obtain ⟨va, vc, w10, happ, hB2, hob⟩ := hB.add [pg / 256, pg % 256, fl, (m : Int)] (by simp; omega) _ rfl
        have hlen : (bs ++ [pg / 256, pg % 256, fl, (m : Int)]).length = N + 4 := by rw [List.length_append, hN]; rfl
        have hbs4 : bs ++ [pg / 256, pg % 256, fl, (m : Int)] = (n : Int) :: encPs (l.take k) ++ [pg / 256 % 256, pg % 256, (if pwr = true then 1 else 0), (m : Int) % 256] := by
          rw [HX.out.2, HFL.out, show pg / 256 % 256 = pg / 256 by omega, show (m : Int) % 256 = m by omega]
        rw [hN] at happ hB2
        simp only [List.length_cons, List.length_nil, Nat.reduceAdd] at happ hB2
        generalize bs ++ [pg / 256, pg % 256, fl, (m : Int)] = bs4 at *
        have HX4 := Lib.hid (And.intro hlen (And.intro hbs4 HX.out.1))
        clear hlen hbs4 HX
        have ho2 := hob pb _ ho (by intro cs f; simp)
        have HB2 := Lib.hid (And.intro hB2 ho2)
        have HWS := Lib.hid hws
        clear hws
        clear hB2 ho2 hob ho
        obtain ⟨sl, scl, rfl⟩ := hB.row.slice
        rw [hN] at *
        clear hB
        rcases hfl with ⟨rfl, rfl⟩ | ⟨rfl, rfl⟩
        all_goals
          go_wp2_with (at_builtin; refine wpList_append_eq rfl _ _ _ rfl rfl rfl (happ _) ?_)
          clear happ c0 c1 c2 lp q0 q1 q2
          go_loopg [4, 8] m (fun gn s4 s8 wr => ∃ (j : Nat) (bv : Value) (bs : List Int), bv = s4 ∧ s8 = .int .i64 j ∧ j ≤ m ∧ gn = m - j ∧ BW w wr bv bs ∧ bs.length = N + 4 + 8 * j ∧ bs = bs4 ++ encWs (ws.take j) ∧ ∃ cb, ob wr pb = some (.cells #[.int .i64 pg, .bool cb, .slice sa m sc] 46 (0, 0)))
          case atStart => exact ⟨0, _, _, rfl, rfl, by omega, by omega, HB2.out.1, HX4.out.1, by simp [encWs], _, HB2.out.2⟩
          case round =>
            clear HB2
            obtain ⟨j, bv, bs, rfl, rfl, hj, rfl, hB, hbl2, hbs2, cb, hpb⟩ := hrel
            have c2 := cell_of_ob hpb 2
            have lp := ob_lt hpb
            simp only [List.getElem?_toArray, List.getElem?_cons_zero, List.getElem?_cons_succ] at c2
            have HPB := Lib.hid hpb
            clear hpb
            by_cases hjm : j < m
            · have hx : ws[j]? = some (ws[j]'(by omega)) := List.getElem?_eq_getElem _
              generalize (ws[j]'(by omega)) = x at hx
              have hxw : okW x := by
                have := HWS.out.2 x (List.mem_of_getElem? hx)
                unfold okW
                exact u64_bd this
              obtain ⟨wb, wo, wcap, hveq, _, _, hX⟩ := HWS.out.1.pos (by rw [List.length_map]; omega)
              rw [List.length_map, hm] at hveq
              simp only [Value.slice.injEq, true_and] at hveq
              obtain ⟨rfl, rfl⟩ := hveq
              have hxc := hX j _ (by rw [List.getElem?_map, hx]; rfl)
              have hwb := World.block_lt_of_cell? (a := ⟨wb, wo + j, none⟩) _ hxc
              have HXC := Lib.hid (And.intro hxc hwb)
              have HB3 := Lib.hid hB
              have HX5 := Lib.hid (And.intro hbl2 (And.intro hbs2 hx))
              clear hB hbl2 hbs2 hX hx hxc hwb
              go_wp2_with fail
              clear c2 lp
              go_loopg [4, 9] 8 (fun gn s4 s9 wr => ∃ (q : Nat) (bv : Value) (bs : List Int), bv = s4 ∧ s9 = .int .i64 (7 - (q : Int)) ∧ q ≤ 8 ∧ gn = 8 - q ∧ BW w wr bv bs ∧ bs.length = N + 4 + 8 * j + q ∧ bs = bs4 ++ encWs (ws.take j) ++ (encW x).take q ∧ ∃ cb, ob wr pb = some (.cells #[.int .i64 pg, .bool cb, .slice (some ⟨wb, wo, none⟩) m sc] 46 (0, 0)))
              case atStart => exact ⟨0, _, _, rfl, rfl, by omega, by omega, HB3.out, by rw [HX5.out.1]; rfl, by rw [HX5.out.2.1]; simp, _, HPB.out⟩
              case round =>
                clear HB3 HPB
                obtain ⟨q, bv, bs, rfl, rfl, hq, rfl, hB, hbl3, hbs3, cb, hpb⟩ := hrel
                by_cases hq8 : q < 8
                · obtain ⟨sl, scl, rfl⟩ := hB.row.slice
                  have c2 := cell_of_ob hpb 2
                  have lp := ob_lt hpb
                  simp only [List.getElem?_toArray, List.getElem?_cons_zero, List.getElem?_cons_succ] at c2
                  obtain ⟨hxc, hwb⟩ := HXC.out
                  rw [← cell_keep hB.kp hwb] at hxc
                  have hwb := Nat.lt_of_lt_of_le hwb hB.kp.size
                  rw [hbl3] at hB ⊢
                  have hq9 : (0 : Int) ≤ 7 - (q : Int) := by omega
                  obtain ⟨va9, vc9, w12, happ, hB4, hob⟩ := hB.add [x / 2 ^ (8 * (7 - q)) % 256] (by rw [hbl3]; simp; omega) _ rfl
                  have ho2 := hob pb _ hpb (by intro cs f; simp)
                  have hbs5 : bs ++ [x / 2 ^ (8 * (7 - q)) % 256] = bs4 ++ encWs (ws.take j) ++ (encW x).take (q + 1) := by
                    rw [hbs3, List.take_add_one, encW_at x q hq8, show 8 * (7 - q) = 56 - 8 * q by omega]; simp
                  rw [hbl3] at happ hB4
                  simp only [List.length_cons, List.length_nil, Nat.reduceAdd] at happ hB4
                  have HB5 := Lib.hid (And.intro hB4 (And.intro hbs5 (And.intro hbl3 ho2)))
                  clear hB4 hbs5 hB hbl3 hbs3 hob ho2 hpb
                  go_wp2_with (at_builtin; refine wpList_append_eq rfl _ _ _ rfl rfl rfl (happ _) ?_)
                  clear happ
                  go_roundg (8 - (q + 1))
                  case measure => omega
                  case rel => exact ⟨q + 1, _, _, rfl, by go_num, by omega, rfl, HB5.out.1, by rw [List.length_append, HB5.out.2.2.1]; rfl, HB5.out.2.1, _, HB5.out.2.2.2⟩
                · obtain rfl : q = 8 := by omega
                  have hbs5 : bs = bs4 ++ encWs (ws.take (j + 1)) := by
                    have e : ws.take (j + 1) = ws.take j ++ [x] := by rw [List.take_add_one, HX5.out.2.2]; rfl
                    rw [hbs3, e]
                    simp only [encWs, List.flatMap_append, List.flatMap_cons, List.flatMap_nil, List.append_nil]
                    rw [List.append_assoc]
                    rfl
                  have HB5 := Lib.hid (And.intro hB (And.intro hbs5 (And.intro hbl3 hpb)))
                  clear hbs5 hB hbl3 hbs3 hpb
                  go_wp2_with fail
                  go_roundg (m - (j + 1))
                  case measure => omega
                  case rel => exact ⟨j + 1, _, _, rfl, by go_num, by omega, rfl, HB5.out.1, by rw [HB5.out.2.2.1]; omega, HB5.out.2.1, _, HB5.out.2.2.2⟩
            · obtain rfl : j = m := by omega
              have hbs5 : bs = (n : Int) :: encPs (l.take (k + 1)) := by
                rw [hbs2, List.take_of_length_le (by omega), HX4.out.2.1, List.take_add_one, HX4.out.2.2]
                simp only [encPs, List.flatMap_append, Option.toList, List.flatMap_cons, List.flatMap_nil, List.append_nil, encP, hm]
                simp
              have HB5 := Lib.hid (And.intro hB (And.intro hbs5 hbl2))
              clear hbs5 hB hbl2 hbs2
              go_wp2_with fail
              go_roundg (n - (k + 1))
              case measure => omega
              case rel => exact ⟨k + 1, _, _, rfl, by go_num, by omega, rfl, HB5.out.1, by rw [HB5.out.2.2]; omega, HB5.out.2.1⟩
      · obtain rfl : k = n := by omega
        have hen : bs = enc l := by rw [hbs, List.take_of_length_le (by omega), enc, hn]; congr 1; omega
        have HF : Hid (BytesPost w l (.returned (.tuple #[bv, .int .i64 0])) wr) := Lib.hid ⟨hB.kp, by rw [if_pos HO.out.1]; exact ⟨_, rfl, rd_u8 (hen ▸ hB.row) (enc_bytes l)⟩⟩
        clear hen hB hbs
        go_wp2_with fail
        go_ret2
        exact HF.out
  · have hr0 : right l = false := by simpa using hr
    have HO := Lib.hid hr0
    rw [hr0]
    clear hr0 hr
    go_wp2_with fail
    go_ret2
    refine ⟨HPk.out, ?_⟩
    rw [HO.out]
    rfl
end Go.Proofs.Ytajlpicdkdeceaa
