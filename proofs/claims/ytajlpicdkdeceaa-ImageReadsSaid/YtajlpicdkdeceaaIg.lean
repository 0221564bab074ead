import Derived.Test.YtajlpicdkdeceaaIe
import Derived.Test.YtajlpicdkdeceaaIf
namespace Go.Proofs.Ytajlpicdkdeceaa
open Go.RowKit
set_option linter.unusedSimpArgs false
set_option linter.unusedVariables false
attribute [local go_sem] ob_alloc ob_drew ob_drewN ob_setCell ob_setBlock objSet_cells obMap_map obClock_map isMapI_map keyI_mk findI_nil findI_cons lookRes_some lookRes_none lookRes_some' lookRes_none' setBlock_alloc mapPut
attribute [local go_sem ↓] Go.wp_at_zero Go.wp_at_succ

def ReadPost (w : World) : Option (List PB) → Ending → World → Prop
  | some l, e, w' => ∃ lv, e = .returned (.tuple #[lv, .int .i64 0]) ∧ PRd w' lv l ∧ Keep [] w w'
  | none, e, w' => e = .returned (.tuple #[.slice none 0 0, .int .i64 11]) ∧ Keep [] w w'
section
variable {w0 w w' : World} {rb lc ec : Nat} {r r' : List Int} {ps : List PB} {lv : Value}
theorem LW.cells (h : LW w0 w rb lc ec r ps lv) : w.cell? ⟨lc, 0, none⟩ = some lv ∧ w.frozen? ⟨lc, 0, none⟩ = false ∧ w.cell? ⟨ec, 0, none⟩ = some (.int .i64 0) ∧ w.frozen? ⟨ec, 0, none⟩ = false ∧ lc < w.heap.size ∧ ec < w.heap.size :=
  ⟨by rw [cell_of_ob h.ob]; rfl, free_of_ob h.ob 0, by rw [cell_of_ob h.er]; rfl, free_of_ob h.er 0, ob_lt h.ob, ob_lt h.er⟩
theorem LW.dead (h : LW w0 w rb lc ec r ps lv) (hk : Keep [rb] w w') : (w'.cell? ⟨lc, 0, none⟩ = some lv ∧ w'.frozen? ⟨lc, 0, none⟩ = false ∧ w'.cell? ⟨ec, 0, none⟩ = some (.int .i64 0) ∧ w'.frozen? ⟨ec, 0, none⟩ = false) ∧
    ((w'.setCell ⟨lc, 0, none⟩ (.slice none 0 0)).setCell ⟨ec, 0, none⟩ (.int .i64 11)).cell? ⟨lc, 0, none⟩ = some (.slice none 0 0) ∧ ((w'.setCell ⟨lc, 0, none⟩ (.slice none 0 0)).setCell ⟨ec, 0, none⟩ (.int .i64 11)).cell? ⟨ec, 0, none⟩ = some (.int .i64 11) ∧
    Keep [] w0 ((w'.setCell ⟨lc, 0, none⟩ (.slice none 0 0)).setCell ⟨ec, 0, none⟩ (.int .i64 11)) := by
  have o1 := hk.kp h.ob (by simp; exact fun e => h.m1 e.symm)
  have o2 := hk.kp h.er (by simp; exact fun e => h.m2 e.symm)
  refine ⟨⟨by rw [cell_of_ob o1]; rfl, free_of_ob o1 0, by rw [cell_of_ob o2]; rfl, free_of_ob o2 0⟩, ?_, ?_, ?_⟩
  · have k1 : Keep [ec] (w'.setCell ⟨lc, 0, none⟩ (.slice none 0 0)) ((w'.setCell ⟨lc, 0, none⟩ (.slice none 0 0)).setCell ⟨ec, 0, none⟩ (.int .i64 11)) := (Keep.refl _ _).setCell (.inl (by simp)) 0 _
    have := k1.kp ((st_same o1).trans rfl) (by simp; exact h.m3)
    rw [cell_of_ob this]; rfl
  · have k1 : Keep [lc] w' (w'.setCell ⟨lc, 0, none⟩ (.slice none 0 0)) := (Keep.refl _ _).setCell (.inl (by simp)) 0 _
    have := k1.kp o2 (by simp; exact fun e => h.m3 e.symm)
    rw [cell_of_ob ((st_same this).trans rfl)]; rfl
  · have k1 : Keep [lc, ec] w' ((w'.setCell ⟨lc, 0, none⟩ (.slice none 0 0)).setCell ⟨ec, 0, none⟩ (.int .i64 11)) := ((Keep.refl _ _).setCell (.inl (by simp)) 0 _).setCell (.inl (by simp)) 0 _
    refine (h.kp.andThen hk (by intro y hy; simp at hy; subst hy; exact .inr h.n1)).andThen k1 (by intro y hy; simp at hy; rcases hy with rfl | rfl; exact .inr h.n2; exact .inr h.n3)
theorem LW.fin (h : LW w0 w rb lc ec r ps lv) : ((w.setCell ⟨lc, 0, none⟩ lv).setCell ⟨ec, 0, none⟩ (.int .i64 0)).cell? ⟨lc, 0, none⟩ = some lv ∧ ((w.setCell ⟨lc, 0, none⟩ lv).setCell ⟨ec, 0, none⟩ (.int .i64 0)).cell? ⟨ec, 0, none⟩ = some (.int .i64 0) ∧
    PRd ((w.setCell ⟨lc, 0, none⟩ lv).setCell ⟨ec, 0, none⟩ (.int .i64 0)) lv ps ∧ Keep [] w0 ((w.setCell ⟨lc, 0, none⟩ lv).setCell ⟨ec, 0, none⟩ (.int .i64 0)) := by
  have o1 := h.ob
  have o2 := h.er
  have k2 : Keep [lc, ec] w ((w.setCell ⟨lc, 0, none⟩ lv).setCell ⟨ec, 0, none⟩ (.int .i64 0)) := ((Keep.refl _ _).setCell (.inl (by simp)) 0 _).setCell (.inl (by simp)) 0 _
  refine ⟨?_, ?_, ?_, ?_⟩
  · have k1 : Keep [ec] (w.setCell ⟨lc, 0, none⟩ lv) ((w.setCell ⟨lc, 0, none⟩ lv).setCell ⟨ec, 0, none⟩ (.int .i64 0)) := (Keep.refl _ _).setCell (.inl (by simp)) 0 _
    have := k1.kp ((st_same o1).trans rfl) (by simp; exact h.m3)
    rw [cell_of_ob this]; rfl
  · have k1 : Keep [lc] w (w.setCell ⟨lc, 0, none⟩ lv) := (Keep.refl _ _).setCell (.inl (by simp)) 0 _
    have := k1.kp o2 (by simp; exact fun e => h.m3 e.symm)
    rw [cell_of_ob ((st_same this).trans rfl)]; rfl
  · refine (h.row.keep k2 (fun b hb cs t f ho => ?_)).prd
    simp at hb
    rcases hb with rfl | rfl
    · rw [o1] at ho; simp at ho; rw [← ho.2.1]; decide
    · rw [o2] at ho; simp at ho; rw [← ho.2.1]; decide
  · exact h.kp.andThen k2 (by intro y hy; simp at hy; rcases hy with rfl | rfl; exact .inr h.n2; exact .inr h.n3)
theorem LW.begin {bv : Value} {bs : List Int} (h : RdI w .u8 bv bs) : LW w (((w.alloc (.cells #[.slice none 0 0] 22)).alloc (.cells #[.int .i64 0] 26)).alloc (.cells #[bv] 50)) (w.heap.size + 2) w.heap.size (w.heap.size + 1) bs [] (.slice none 0 0) := by
  have k1 : Keep [] w (w.alloc (.cells #[.slice none 0 0] 22)) := (Keep.refl _ _).alloc _
  have s1 : (w.alloc (.cells #[.slice none 0 0] 22)).heap.size = w.heap.size + 1 := by simp
  have o1 := al_new w (.cells #[.slice none 0 0] 22) rfl
  generalize w.alloc (.cells #[.slice none 0 0] 22) = w1 at *
  have k2 : Keep [] w1 (w1.alloc (.cells #[.int .i64 0] 26)) := (Keep.refl _ _).alloc _
  have s2 : (w1.alloc (.cells #[.int .i64 0] 26)).heap.size = w.heap.size + 2 := by simp [s1]
  have o2 := al_new w1 (.cells #[.int .i64 0] 26) rfl
  generalize w1.alloc (.cells #[.int .i64 0] 26) = w2 at *
  have k3 : Keep [] w2 (w2.alloc (.cells #[bv] 50)) := (Keep.refl _ _).alloc _
  have o3 := al_new w2 (.cells #[bv] 50) rfl
  generalize w2.alloc (.cells #[bv] 50) = w3 at *
  rw [s1] at o2
  rw [s2] at o3
  have kk := (k1.trans k2).trans k3
  refine ⟨⟨bv, o3, h.keep kk (by simp), fun b hb h0 => ?_⟩, (k2.trans k3).kp o1 (by simp), ⟨[], RowE.nil _ _, rfl, fun i q p hq => by simp at hq⟩, k3.kp o2 (by simp), kk, by omega, by omega, by omega, by omega, by omega, by omega⟩
  obtain ⟨ab, ao, cap', rfl, _, _, hX⟩ := h.1.pos (by rw [List.length_map]; omega)
  have hx := hX 0 _ (by rw [List.getElem?_map, List.getElem?_eq_getElem h0]; rfl)
  simp [Value.ownBlock] at hb
  subst hb
  exact World.block_lt_of_cell? (a := ⟨ab, ao + 0, none⟩) _ hx
end
set_option maxRecDepth 100000 in
set_option maxHeartbeats 4000000 in
theorem pRead (w : World) (bv : Value) (bs : List Int) (h : RdI w .u8 bv bs) (hb : ∀ c ∈ bs, okB c) :
    Calls Try.prog 12 #[bv] w (ReadPost w (dec bs)) := by
  have hmf : ∀ (fn : Fn) (first cap : Array Value) (w : World), (Instr.makeFunc fn first cap).run Try.prog w = .ok (.func fn first cap) w := fun _ _ _ _ => rfl
  have hL := LW.begin h
  obtain ⟨a, cap, hve, -, -⟩ := h.1.len
  rw [List.length_map] at hve
  subst hve
  obtain ⟨N, hN⟩ : ∃ N, bs.length = N := ⟨_, rfl⟩
  rw [hN] at hL h ⊢
  clear hN
  have HL := Lib.hid hL
  clear hL h
  go_enter_defers Try.func12, Try.ntmps12
  go_upto_region 3 with fail
  have hL0 := HL.out
  clear HL
  generalize ((w.alloc (.cells #[.slice none 0 0] 22)).alloc (.cells #[.int .i64 0] 26)).alloc (.cells #[.slice a N cap] 50) = w1 at *
  rw [show w.heap.size + 1 + 1 = w.heap.size + 2 by omega]
  obtain ⟨rb, hrb⟩ : ∃ rb, w.heap.size + 2 = rb := ⟨_, rfl⟩
  obtain ⟨ec, hec⟩ : ∃ ec, w.heap.size + 1 = ec := ⟨_, rfl⟩
  obtain ⟨lc, hlc⟩ : ∃ lc, w.heap.size = lc := ⟨_, rfl⟩
  rw [hrb, hec] at hL0
  have hL : LW w w1 rb lc ec bs [] (.slice none 0 0) := by rw [← hlc]; exact hL0
  rw [hrb, hec, hlc]
  have HL := Lib.hid hL
  clear hL0 hrb hec hlc
  have hne : lc ≠ ec := hL.m3
  clear hL
  cases h1 : takeN 1 bs with
  | none =>
    have HD : Hid (dec bs = none) := Lib.hid (by simp [dec, h1])
    have hc := takeX (k := 1) HL.out.rd (by omega) h1
    clear h1
    go_wp2_with fail
    refine hc.mono ?_
    rintro _ w2 ⟨rfl, hw2⟩
    obtain rfl : w1 = w2 := hw2.symm
    go_wp2_with fail
    have HDD := Lib.hid (HL.out.dead (Keep.refl _ _))
    refine leaves_cons (f := 18) (args := #[.pointer (some ⟨lc, 0, none⟩), .pointer (some ⟨ec, 0, none⟩)]) (by simp) (by simp [go_sem]) ?_
    obtain ⟨⟨q1, q2, q3, q4⟩, q5, q6, q7⟩ := HDD.out
    refine (catch_panicking lc ec [] _ _ _ q1 q2 q3 q4 hne).mono ?_
    rintro e u' w9 ⟨rfl, rfl, rfl⟩
    have HF := Lib.hid (And.intro HD.out q7)
    clear HDD HD q1 q2 q3 q4 q7 HL hmf hb
    simp [Leaves, settle, results, Try.results12, go_sem, q5, q6]
    rw [HF.out.1]
    exact ⟨rfl, HF.out.2⟩
  | some x1 =>
    obtain ⟨nv, r1⟩ := x1
    obtain rfl := takeN1_some h1
    have hc := (takeR (k := 1) HL.out.rd hb (by omega) (by omega) h1).mono (fun e w' ⟨h1, h2, h3⟩ => (⟨h1, HL.out.took h2 h3⟩ : _ ∧ LW w w' rb lc ec r1 [] (.slice none 0 0)))
    have hnv := hb nv (by simp)
    have hb1 : ∀ c ∈ r1, okB c := fun c hc => hb c (by simp [hc])
    unfold okB at hnv
    obtain ⟨n, rfl⟩ := Int.eq_ofNat_of_zero_le hnv.1
    have HD : Hid (dec ((n : Int) :: r1) = (decPs n r1).bind fun (l, r') => if r' = [] ∧ right l = true then some l else none) := Lib.hid (by simp [dec, takeN_1])
    have hn : n ≤ 255 := by omega
    have HB := Lib.hid hb1
    clear hnv h1 hb hb1 HL
    go_wp2_with fail
    refine hc.mono ?_
    rintro _ w2 ⟨rfl, hL⟩
    have HL := Lib.hid hL
    clear hL hc
    go_wp2_with fail
    go_loopg [12] n (fun gn s12 wr => ∃ (j : Nat) (rj : List Int) (ps : List PB) (lv : Value), s12 = .int .i64 j ∧ j ≤ n ∧ gn = n - j ∧ ps.length = j ∧ LW w wr rb lc ec rj ps lv ∧ (∀ c ∈ rj, okB c) ∧ decPs n r1 = (decPs (n - j) rj).map fun (t, r4) => (ps ++ t, r4))
    case atStart => exact ⟨0, r1, [], _, rfl, by omega, by omega, rfl, HL.out, HB.out, by cases decPs (n - 0) r1 <;> simp⟩
    case round =>
      clear HL
      obtain ⟨j, rj, ps, lv, rfl, hj, rfl, hpl, hL, hbj, hdj⟩ := hrel
      by_cases hjl : j < n
      · cases h4 : decP rj with
        | none =>
          have hdn : decPs n r1 = none := by
            rw [hdj, show n - j = (n - j - 1) + 1 by omega, decPs, h4]; rfl
          have HD2 : Hid (dec ((n : Int) :: r1) = none) := Lib.hid (by rw [HD.out, hdn]; rfl)
          obtain ⟨c0, f0, c1, f1, l0, l1⟩ := hL.cells
          have hLd := hL.new (Keep.refl _ _).drew
          have HC := Lib.hid ((pPart wr.drew rb w.heap.size rj hLd.rd hbj hLd.n1 (by obtain ⟨_, h, _⟩ := hLd.rd; exact ob_lt h)).mono (fun e w' h => (by rw [h4] at h; exact ⟨h.1, hLd.dead h.2⟩ : e = .panicked [formP] ∧ _)))
          have HPR := Lib.hid hL.row
          clear hdj hdn HD hL hbj h4 hLd
          obtain ⟨rs, hrs1, hrs2, -⟩ := HPR.out
          obtain ⟨sa, sc, rfl⟩ := hrs1.slice
          have hjl' : (j : Int) < n := by omega
          clear hrs1 HPR
          go_wp2_with fail
          first | go_region_dies | fail "x"
          all_goals
            refine HC.out.mono ?_
            rintro _ w8 ⟨rfl, hDD⟩
            have HDD := Lib.hid hDD
            have HD := HD2
            clear hDD HC HD2
            go_wp2_with fail

            refine leaves_cons (f := 18) (args := #[.pointer (some ⟨lc, 0, none⟩), .pointer (some ⟨ec, 0, none⟩)]) (by simp) (by simp [go_sem]) ?_
            obtain ⟨⟨q1, q2, q3, q4⟩, q5, q6, q7⟩ := HDD.out
            refine (catch_panicking lc ec [] _ _ _ q1 q2 q3 q4 hne).mono ?_
            rintro e u' w9 ⟨rfl, rfl, rfl⟩
            have HF := Lib.hid (And.intro HD.out q7)
            clear HDD HD q1 q2 q3 q4 q7 hmf
            simp [Leaves, settle, results, Try.results12, go_sem, q5, q6]
            rw [HF.out.1]
            exact ⟨rfl, HF.out.2⟩
        | some x4 =>
          obtain ⟨p, r4⟩ := x4
          have hdn : decPs n r1 = (decPs (n - (j + 1)) r4).map fun (t, r5) => ((ps ++ [p]) ++ t, r5) := by
            rw [hdj, show n - j = (n - (j + 1)) + 1 by omega, decPs, h4]
            simp only [Option.bind_some]
            cases h5 : decPs (n - (j + 1)) r4 <;> simp
          obtain ⟨-, hpw, hb4⟩ := decP_some h4 hbj
          obtain ⟨c0, f0, c1, f1, l0, l1⟩ := hL.cells
          have hLd := hL.new (Keep.refl _ _).drew
          have HC : Hid (Calls Try.prog 20 #[.pointer (some ⟨rb, 0, none⟩)] wr.drew fun e w' => ∃ sa sc, e = .returned (.agg #[.int .i64 p.pg, .bool p.wr, .slice sa p.ws.length sc]) ∧ w'.cell? ⟨lc, 0, none⟩ = some lv ∧ lc < w'.heap.size ∧
              ∃ va vc w2, (∀ ty, (Builtin.append_ #[22, 22] ty #[lv, .slice (some ⟨w'.heap.size, 0, none⟩) 1 1]).run Try.prog (w'.alloc (.cells #[.int .i64 p.pg, .bool p.wr, .slice sa p.ws.length sc] 42)) = .ok (.slice va (j + 1) vc) w2) ∧
                LW w (w2.setCell ⟨lc, 0, none⟩ (.slice va (j + 1) vc)) rb lc ec r4 (ps ++ [p]) (.slice va (j + 1) vc) ∧ w2.frozen? ⟨lc, 0, none⟩ = false ∧ w2.cell? ⟨lc, 0, none⟩ = some lv ∧ lc < w2.heap.size) :=
            Lib.hid ((pPart wr.drew rb w.heap.size rj hLd.rd hbj hLd.n1 (by obtain ⟨_, h, _⟩ := hLd.rd; exact ob_lt h)).mono (fun e w' h => by
              rw [h4] at h
              obtain ⟨sa, sc, he, hr, hrow, hk⟩ := h
              have hL2 := hLd.took hr hk
              have := hL2.push p sa sc (row_weak hrow hLd.kp.size) hpw (by omega)
              rw [hpl] at this
              exact ⟨sa, sc, he, hL2.cells.1, hL2.cells.2.2.2.2.1, this⟩))
          have HDN := Lib.hid (And.intro hdn (And.intro hb4 hpl))
          obtain ⟨rs, hrs1, hrs2, -⟩ := hL.row
          obtain ⟨sl, scl, rfl⟩ := hrs1.slice
          rw [hrs2, hpl] at c0 HC
          have hjl' : (j : Int) < n := by omega
          clear hrs1 hrs2 hdj hdn hL hLd hbj h4 hb4 hpl hpw
          generalize hm : p.ws.length = m at *
          generalize hpg : p.pg = pg at *
          generalize hpwr : p.wr = pwr at *
          go_wp2_with fail
          first
            | go_region_law (first
              | (refine step_append_eq rfl _ _ _ rfl rfl rfl (happ _) ?_)
              | (go_simp; go_at_call 20; refine HC.out.mono ?_; rintro _ w9 ⟨psa, psc, rfl, m2, l9, va, vc, w10, happ, hP, fz, hy, lq⟩))
            | fail "x"
          all_goals
            have HP := Lib.hid hP
            clear hP happ m2 hy fz lq c0 c1 f0 f1 l0 l1 HC
            go_wp2_with fail
            go_roundg (n - (j + 1))
            case measure => omega
            case rel => exact ⟨j + 1, r4, ps ++ [p], _, by go_num, by omega, rfl, by rw [List.length_append, HDN.out.2.2]; rfl, HP.out, HDN.out.2.1, HDN.out.1⟩
      · obtain rfl : j = n := by omega
        rw [Nat.sub_self, decPs] at hdj
        have hdj2 : decPs j r1 = some (ps, rj) := by rw [hdj]; simp
        rw [hdj2] at HD
        simp only [Option.bind_some] at HD
        obtain ⟨c0, f0, c1, f1, l0, l1⟩ := hL.cells
        obtain ⟨a0, cp0, ho0, -, -, -, -⟩ := hL.rd.len
        have cr := cell_of_ob ho0 0
        have lr := ob_lt ho0
        simp only [List.getElem?_toArray, List.getElem?_cons_zero] at cr
        obtain ⟨rs, hrs1, hrs2, -⟩ := hL.row
        obtain ⟨sl, scl, rfl⟩ := hrs1.slice
        rw [hrs2, hpl] at c0
        rw [hrs2, hpl] at hL
        have HR := Lib.hid (bRight wr _ _ hL.row.prd)
        have HLL := Lib.hid hL
        obtain ⟨m, hm⟩ : ∃ m, rj.length = m := ⟨_, rfl⟩
        rw [hm] at cr
        clear hrs1 hrs2 hdj hdj2 hL hbj ho0 HB
        by_cases hm0 : m = 0
        · subst hm0
          have hrj := List.eq_nil_of_length_eq_zero hm
          subst hrj
          go_wp2_with fail
          refine HR.out.mono ?_
          rintro _ w3 ⟨rfl, hk3⟩
          have HLL3 := Lib.hid (HLL.out.new hk3)
          obtain ⟨c0, f0, c1, f1, l0, l1⟩ := HLL3.out.cells
          clear HLL HR hk3 cr lr
          cases hr : right ps with
          | false =>
            have HD2 : Hid (dec ((j : Int) :: r1) = none) := Lib.hid (by rw [HD.out, if_neg (by rw [hr]; simp)])
            go_wp2_with fail
            refine (must_no _).mono ?_
            rintro _ w4 ⟨rfl, hw4⟩
            obtain rfl : w3 = w4 := hw4.symm
            have HDD := Lib.hid (HLL3.out.dead (Keep.refl _ _))
            clear HLL3 HD c0 f0 c1 f1
            go_wp2_with fail
            refine leaves_cons (f := 18) (args := #[.pointer (some ⟨lc, 0, none⟩), .pointer (some ⟨ec, 0, none⟩)]) (by simp) (by simp [go_sem]) ?_
            obtain ⟨⟨q1, q2, q3, q4⟩, q5, q6, q7⟩ := HDD.out
            refine (catch_panicking lc ec [] _ _ _ q1 q2 q3 q4 hne).mono ?_
            rintro e u' w9 ⟨rfl, rfl, rfl⟩
            have HF := Lib.hid (And.intro HD2.out q7)
            clear HDD HD2 q1 q2 q3 q4 q7 hmf
            simp [Leaves, settle, results, Try.results12, go_sem, q5, q6]
            rw [HF.out.1]
            exact ⟨rfl, HF.out.2⟩
          | true =>
            have HD2 : Hid (dec ((j : Int) :: r1) = some ps) := Lib.hid (by rw [HD.out, if_pos ⟨trivial, hr⟩])
            have HFN := Lib.hid HLL3.out.fin
            clear HLL3 HD
            go_wp2_with fail
            refine (must_ok _).mono ?_
            rintro _ w4 ⟨rfl, hw4⟩
            obtain rfl : w3 = w4 := hw4.symm
            go_wp2_with fail
            refine leaves_cons (f := 18) (args := #[.pointer (some ⟨lc, 0, none⟩), .pointer (some ⟨ec, 0, none⟩)]) (by simp) (by simp [go_sem]) ?_
            refine (catch_idle lc ec _).mono ?_
            rintro e u' w9 ⟨rfl, rfl, rfl⟩
            obtain ⟨q5, q6, q7, q8⟩ := HFN.out
            have HF := Lib.hid (And.intro HD2.out (And.intro q7 q8))
            clear HFN HD2 q7 q8 hmf c0 f0 c1 f1
            simp [Leaves, settle, results, Try.results12, go_sem, q5, q6]
            rw [HF.out.1]
            exact ⟨_, rfl, HF.out.2⟩
        · have HD2 : Hid (dec ((j : Int) :: r1) = none) := Lib.hid (by rw [HD.out, if_neg (by rintro ⟨rfl, _⟩; simp at hm; omega)])
          have HDD := Lib.hid (HLL.out.dead (Keep.refl _ _))
          clear HLL HD c0 f0 c1 f1 HR
          go_wp2_with fail
          refine (must_no _).mono ?_
          rintro _ w4 ⟨rfl, hw4⟩
          obtain rfl : w4 = _ := hw4
          go_wp2_with fail
          refine leaves_cons (f := 18) (args := #[.pointer (some ⟨lc, 0, none⟩), .pointer (some ⟨ec, 0, none⟩)]) (by simp) (by simp [go_sem]) ?_
          obtain ⟨⟨q1, q2, q3, q4⟩, q5, q6, q7⟩ := HDD.out
          refine (catch_panicking lc ec [] _ _ _ q1 q2 q3 q4 hne).mono ?_
          rintro e u' w9 ⟨rfl, rfl, rfl⟩
          have HF := Lib.hid (And.intro HD2.out q7)
          clear HDD HD2 q1 q2 q3 q4 q7 hmf
          simp [Leaves, settle, results, Try.results12, go_sem, q5, q6]
          rw [HF.out.1]
          exact ⟨rfl, HF.out.2⟩
end Go.Proofs.Ytajlpicdkdeceaa
