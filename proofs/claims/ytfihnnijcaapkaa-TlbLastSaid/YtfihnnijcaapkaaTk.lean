import Derived.Test.YtfihnnijcaapkaaTi
import Derived.Deep.RegionWith
namespace Go.Proofs.Ytfihnnijcaapkaa
open Go.RowKit
set_option linter.unusedSimpArgs false
set_option linter.unusedVariables false
attribute [local go_sem] ob_alloc ob_drew ob_drewN ob_setCell ob_setBlock objSet_cells obMap_map obClock_map isMapI_map keyI_mk findI_nil findI_cons lookRes_some lookRes_none lookRes_some' lookRes_none' setBlock_alloc mapPut
attribute [local go_sem ↓] eql29 neq29

theorem B1.drewN {W0 : World} {b : Nat} {w : World} {S : Nat → Option Ln} (h : B1 W0 b w S) (n : Nat) : B1 W0 b (w.drewN n) S := h.new ((Keep.refl _ _).drewN n)
theorem Keep.cell {S : List Nat} {w w' : World} (hk : Keep S w w') {b i : Nat} {v : Value} (h : w.cell? ⟨b, i, none⟩ = some v) (hb : b ∉ S) : w'.cell? ⟨b, i, none⟩ = some v := by
  rw [cell_ob] at h ⊢
  cases ho : ob w b with
  | none => rw [ho] at h; simp [obCell] at h
  | some o => rw [hk.kp ho hb]; rw [ho] at h; exact h
set_option maxRecDepth 100000 in
set_option maxHeartbeats 40000000 in
theorem flush09 (W0 : World) (v0 : Value) (asid : Int) (xs : List (List Value)) (hv : RdA W0 6 v0 xs) (hx : ∀ c ∈ xs, GCells W0 [.int .i64, .int .i64, .int .i64, .int .i64, .int .i64, .bool] c) :
    Calls Try.prog 4 #[v0, .int .i64 asid] W0 fun o w' => o = .returned (.bool true) ∧ Keep [] W0 w' := by
  obtain ⟨a0, cap0, rfl, hc1, hc2⟩ := hv.len
  unfold maxLen at hc2
  go_enter Try.func4, Try.ntmps4
  go_wp2_with fail
  refine (awake09 W0).mono ?_
  rintro _ w1 ⟨rfl, hk1⟩
  go_wp2_with fail
  refine (tNew w1).mono ?_
  rintro _ w2 ⟨rfl, hB2, hk2, hs2⟩
  have hA0 : B1 W0 w1.heap.size w2 (fun _ => none) := ⟨hB2.addK (by simp), Uniq.none, hk1.trans hk2, hk1.size⟩
  generalize w1.heap.size = b at *
  clear hB2 hk1 hk2 hs2
  generalize hn : xs.length = n at *
  by_cases h100 : n ≤ 100
  · go_wp2_with fail
    go_loopg [7] n (fun gn i wr => ∃ (k : Nat) (S : Nat → Option Ln), i = .int .i64 k ∧ k ≤ n ∧ gn = n - k ∧ B1 W0 b wr S)
    case atStart => exact ⟨0, _, rfl, by omega, by omega, hA0⟩
    case round =>
      clear hA0
      obtain ⟨k, S, rfl, hkn, rfl, hA⟩ := hrel
      by_cases hlt : k < n
      · --[[
        obtain ⟨bb, off, cap', hveq, hbl, hcells⟩ := (hv.keep hA.kp (by simp)).2 (by omega)
        simp only [Value.slice.injEq, hn, true_and] at hveq
        obtain ⟨rfl, rfl⟩ := hveq
        have hxk : xs[k]? = some (xs[k]'(by rw [hn]; exact hlt)) := List.getElem?_eq_getElem _
        obtain ⟨hc3, hrange⟩ := hcells k _ hxk
        obtain ⟨_, _, hxe, ⟨d, rfl, _⟩, _, _, rfl, ⟨at', rfl, _⟩, _, _, rfl, ⟨a, rfl, _⟩, _, _, rfl, ⟨p, rfl, _⟩, _, _, rfl, ⟨f, rfl, _⟩, _, _, rfl, ⟨lw, rfl⟩, rfl⟩ := hx _ (List.getElem_mem (by rw [hn]; exact hlt))
        rw [hxe] at hrange
        have l1 := hrange 1 _ rfl
        have l2 := hrange 2 _ rfl
        have l3 := hrange 3 _ rfl
        have l4 := hrange 4 _ rfl
        have l5 := hrange 5 _ rfl
        clear hv hx hcells hxk hrange hc3 hxe hn
        have hD := hA.drew
        clear hA
        go_wp2_with fail
        go_region_with
          (first
            | (go_at_call 13; refine (B1.put (by assumption) a p f lw at').mono ?_; rintro _ w5 ⟨rfl, hD, _⟩))
        all_goals
          go_wp2_with fail
          go_roundg (n - (k + 1))
          case measure => omega
          case rel => exact ⟨k + 1, _, by go_num, by omega, rfl, hD⟩
      · obtain rfl : k = n := by omega
        clear hv hx
        go_wp2_with fail
        refine hA.lines.mono ?_
        rintro _ w5 ⟨va, vc, rfl, hR5, hA5, hk5⟩
        generalize hys : linesR S 8 = ys at *
        have hm8 : ys.length ≤ 8 := by rw [← hys]; exact linesR_len S 8
        generalize hm : ys.length = m at *
        go_wp2_with fail
        refine (hA5.flush asid).mono ?_
        rintro _ w6 ⟨rfl, hA6, hk6⟩
        have hR6 := hR5.keep hk6 (fun x hx hmem => by
          have h1 := ownBlock_ge hR5 hx
          have h2 := hA.lt
          simp at hmem
          omega)
        have HF : Hid ((∀ l, l ∈ ys → findR (dropS (eqA asid) S) l.a l.p = if l.a == asid then none else some l) ∧ (∀ k, leftN asid ys k ≤ m) ∧ m = dropN (eqA asid) S 8 + leftN asid ys m ∧ (linesR (dropS (eqA asid) S) 8).length = leftN asid ys m ∧ dropN (eqA asid) (dropS (eqA asid) S) 8 = 0 ∧ ys.length = m) := by
          subst hys
          refine Lib.hid ⟨fun l hl => find_drop hA.un hl asid, fun k => ?_, ?_, ?_, dropN_drop _ _ _, hm⟩
          · rw [← hm]; exact leftN_le _ _ _
          · rw [← hm, leftN_all]; exact linesR_count _ _ _
          · rw [linesR_drop, ← hm, leftN_all]
        generalize dropS (eqA asid) S = S1 at *
        generalize dropN (eqA asid) S 8 = dn at *
        have hdn : dn ≤ 8 := by have := HF.out.2.2.1; omega
        generalize wr.heap.size = B at *
        clear hR5 hA5 hA hk5 hk6 hys hm
        have HA6 := Lib.hid (And.intro hA6 hR6)
        clear hA6 hR6
        go_wp2_with fail
        go_loopg [10, 11] m (fun gn lf i wr => ∃ k : Nat, i = .int .i64 k ∧ k ≤ m ∧ gn = m - k ∧ lf = .int .i64 (leftN asid ys k : Nat) ∧ B1 W0 b wr S1 ∧ RowE lnE 29 wr B (.slice va m vc) ys)
        case atStart => exact ⟨0, rfl, by omega, by omega, rfl, HA6.out.1, HA6.out.2⟩
        case round =>
          clear HA6
          obtain ⟨k, rfl, hkm, rfl, rfl, hA, hR⟩ := hrel
          by_cases hlt : k < m
          · have hlx : k < ys.length := by have := HF.out.2.2.2.2.2; omega
            have hyk : ys[k]? = some ys[k] := List.getElem?_eq_getElem hlx
            have HL := Lib.hid (leftN_succ (a := asid) hyk)
            have hL1 := HF.out.2.1 k
            have hL2 := HF.out.2.1 (k + 1)
            have HFd := Lib.hid (HF.out.1 _ (List.getElem_mem hlx))
            generalize ys[k] = l at *
            obtain ⟨g1, c1, e1, left, left_1, b1, b2, hc1⟩ := hR.get hyk
            simp only [Value.slice.injEq, true_and] at e1
            obtain ⟨rfl, -, rfl⟩ := e1
            rw [HF.out.2.2.2.2.2] at b1
            have p0 := hc1 0 _ rfl
            have p1 := hc1 1 _ rfl
            have p2 := hc1 2 _ rfl
            have p3 := hc1 3 _ rfl
            rw [Nat.add_zero] at p0
            clear hc1 hlx
            generalize leftN asid ys k = L at *
            generalize hLe : leftN asid ys (k + 1) = L1 at *
            have HLe := Lib.hid hLe
            clear hLe
            go_wp2_with fail
            go_cut [12, 13] from 51 to 94 (fun s12 s13 wx => s13 = .bool (!(l.a == asid)) ∧ ∃ x, s12 = .pointer (some ⟨x, 0, none⟩) ∧ ob wx x = some (lnO (if l.a == asid then ln0 else l)) ∧ B1 W0 b wx S1 ∧ RowE lnE 29 wx B (.slice (some ⟨g1, 0, none⟩) m vc) ys)
            case first =>
              have hkA : Keep [] wr (wr.alloc (.cells #[.int .i64 0, .int .i64 0, .int .i64 0, .bool false] 29)).drew := ((Keep.refl _ _).alloc _).drew
              have ez : ob (wr.alloc (.cells #[.int .i64 0, .int .i64 0, .int .i64 0, .bool false] 29)).drew wr.heap.size = some _ := al_new _ _ rfl
              have HD := Lib.hid (And.intro hA.drew (hA.new hkA))
              have HZ := Lib.hid ez
              have HR := Lib.hid hR
              have q0 := hkA.cell p0 (by simp)
              have q1 := hkA.cell p1 (by simp)
              have HKA := Lib.hid hkA
              have HAA := Lib.hid hA
              have HG : Hid (g1 ≠ wr.heap.size) := Lib.hid (by omega)
              clear hA hR ez hkA p2 p3 HF HL left left_1 hL1 hn hc1 hkn h100 hm8 hdn
              by_cases hla : l.a = asid
              · have hf : findR S1 l.a l.p = none := by rw [HFd.out]; simp [hla]
                have hlb : (l.a == asid) = true := by simpa using hla
                have HH := Lib.hid (And.intro hf hlb)
                clear hf hlb hla HFd
                go_region_held3 (fun w' => w'.cell? ⟨g1, k * 4, none⟩ = some (.int .i64 l.a) ∧ w'.cell? ⟨g1, k * 4 + 1, none⟩ = some (.int .i64 l.p)) (first | exact ⟨p0, p1⟩ | exact ⟨q0, q1⟩ | exact ⟨r0, r1⟩ | exact ⟨t0, t1⟩ | go_keep)
                  (first
                    | (go_at_call 14; refine (B1.findN (by first | with_reducible exact HD.out.1 | with_reducible exact HD.out.2) HH.out.1).mono ?_; rintro _ w5 ⟨rfl, hD, hkD⟩; first | (have r0 := Keep.cell (by with_reducible exact hkD) q0 (by simp); have r1 := Keep.cell hkD q1 (by simp); have ex := cell_of_ob (Keep.kp hkD HZ.out (by simp)); have ex0 : w5.cell? ⟨wr.heap.size, 0, none⟩ = some (.int .i64 0) := ex 0; have ex1 : w5.cell? ⟨wr.heap.size, 1, none⟩ = some (.int .i64 0) := ex 1; have ex2 : w5.cell? ⟨wr.heap.size, 2, none⟩ = some (.int .i64 0) := ex 2; have ex3 : w5.cell? ⟨wr.heap.size, 3, none⟩ = some (.bool false) := ex 3; have ef := free_of_ob (Keep.kp hkD HZ.out (by simp)); have ef0 := ef 0; have ef1 := ef 1; have ef2 := ef 2; have ef3 := ef 3; clear ex ef; have hkS : Keep [wr.heap.size] w5 ((((w5.setCell ⟨wr.heap.size, 0, none⟩ (.int .i64 0)).setCell ⟨wr.heap.size, 1, none⟩ (.int .i64 0)).setCell ⟨wr.heap.size, 2, none⟩ (.int .i64 0)).setCell ⟨wr.heap.size, 3, none⟩ (.bool false)) := (((((Keep.refl _ _).setCell (.inl (by simp)) 0 _).setCell (.inl (by simp)) 1 _).setCell (.inl (by simp)) 2 _).setCell (.inl (by simp)) 3 _); have t0 := hkS.cell r0 (by simp; exact HG.out); have t1 := hkS.cell r1 (by simp; exact HG.out); have HKS := Lib.hid hkS; clear hkS) | (have r0 := Keep.cell (show Keep [] wr w5 from (((Keep.refl [] wr).drew).trans hkD)) p0 (by simp); have r1 := Keep.cell (show Keep [] wr w5 from (((Keep.refl [] wr).drew).trans hkD)) p1 (by simp); have t0 := Keep.cell ((Keep.refl [] w5).alloc (.cells #[.int .i64 0, .int .i64 0, .int .i64 0, .bool false] 29)) r0 (by simp); have t1 := Keep.cell ((Keep.refl [] w5).alloc (.cells #[.int .i64 0, .int .i64 0, .int .i64 0, .bool false] 29)) r1 (by simp))))
                focus
                  go_wp2_with fail
                  go_meet
                  exact ⟨by rw [HH.out.2]; rfl, _, rfl, by rw [HH.out.2]; exact al_new _ _ rfl, hD.new ((Keep.refl _ _).alloc _), (HR.out.keep (((Keep.refl [] wr).drew).trans hkD) (by simp)).keep ((Keep.refl [] w5).alloc _) (by simp)⟩
                focus
                  go_wp2_with fail
                  go_meet
                  have hkF := (HKA.out.trans hkD).andThen HKS.out (by simp)
                  exact ⟨by rw [HH.out.2]; rfl, _, rfl, by rw [HH.out.2]; exact (st_same (st_same (st_same (st_same (hkD.kp HZ.out (by simp)))))).trans rfl, HAA.out.new hkF, HR.out.keep hkF (by simp)⟩
              · have hf : findR S1 l.a l.p = some ⟨l.a, l.p, l.f, l.w⟩ := by rw [HFd.out]; simp [hla]
                have hlb : (l.a == asid) = false := by simpa using hla
                have HH := Lib.hid (And.intro hf hlb)
                clear hf hlb hla HFd
                go_region_held3 (fun w' => w'.cell? ⟨g1, k * 4, none⟩ = some (.int .i64 l.a) ∧ w'.cell? ⟨g1, k * 4 + 1, none⟩ = some (.int .i64 l.p)) (first | exact ⟨p0, p1⟩ | exact ⟨q0, q1⟩ | exact ⟨r0, r1⟩ | exact ⟨t0, t1⟩ | go_keep)
                  (first
                    | (go_at_call 14; refine (B1.findY (by first | with_reducible exact HD.out.1 | with_reducible exact HD.out.2) HH.out.1).mono ?_; rintro _ w5 ⟨rfl, hD, hkD⟩; first | (have r0 := Keep.cell (by with_reducible exact hkD) q0 (by simp); have r1 := Keep.cell hkD q1 (by simp); have ex := cell_of_ob (Keep.kp hkD HZ.out (by simp)); have ex0 : w5.cell? ⟨wr.heap.size, 0, none⟩ = some (.int .i64 0) := ex 0; have ex1 : w5.cell? ⟨wr.heap.size, 1, none⟩ = some (.int .i64 0) := ex 1; have ex2 : w5.cell? ⟨wr.heap.size, 2, none⟩ = some (.int .i64 0) := ex 2; have ex3 : w5.cell? ⟨wr.heap.size, 3, none⟩ = some (.bool false) := ex 3; have ef := free_of_ob (Keep.kp hkD HZ.out (by simp)); have ef0 := ef 0; have ef1 := ef 1; have ef2 := ef 2; have ef3 := ef 3; clear ex ef; have hkS : Keep [wr.heap.size] w5 ((((w5.setCell ⟨wr.heap.size, 0, none⟩ (.int .i64 l.a)).setCell ⟨wr.heap.size, 1, none⟩ (.int .i64 l.p)).setCell ⟨wr.heap.size, 2, none⟩ (.int .i64 l.f)).setCell ⟨wr.heap.size, 3, none⟩ (.bool l.w)) := (((((Keep.refl _ _).setCell (.inl (by simp)) 0 _).setCell (.inl (by simp)) 1 _).setCell (.inl (by simp)) 2 _).setCell (.inl (by simp)) 3 _); have t0 := hkS.cell r0 (by simp; exact HG.out); have t1 := hkS.cell r1 (by simp; exact HG.out); have HKS := Lib.hid hkS; clear hkS) | (have r0 := Keep.cell (show Keep [] wr w5 from (((Keep.refl [] wr).drew).trans hkD)) p0 (by simp); have r1 := Keep.cell (show Keep [] wr w5 from (((Keep.refl [] wr).drew).trans hkD)) p1 (by simp); have t0 := Keep.cell ((Keep.refl [] w5).alloc (.cells #[.int .i64 l.a, .int .i64 l.p, .int .i64 l.f, .bool l.w] 29)) r0 (by simp); have t1 := Keep.cell ((Keep.refl [] w5).alloc (.cells #[.int .i64 l.a, .int .i64 l.p, .int .i64 l.f, .bool l.w] 29)) r1 (by simp))))
                focus
                  go_wp2_with fail
                  go_meet
                  exact ⟨by rw [HH.out.2]; rfl, _, rfl, by rw [HH.out.2]; exact al_new _ _ rfl, hD.new ((Keep.refl _ _).alloc _), (HR.out.keep (((Keep.refl [] wr).drew).trans hkD) (by simp)).keep ((Keep.refl [] w5).alloc _) (by simp)⟩
                focus
                  go_wp2_with fail
                  go_meet
                  have hkF := (HKA.out.trans hkD).andThen HKS.out (by simp)
                  exact ⟨by rw [HH.out.2]; rfl, _, rfl, by rw [HH.out.2]; exact (st_same (st_same (st_same (st_same (hkD.kp HZ.out (by simp)))))).trans rfl, HAA.out.new hkF, HR.out.keep hkF (by simp)⟩
            case rest =>
              clear hA hR p0 p1 p2 p3
              obtain ⟨rfl, x, rfl, hx, hA, hR⟩ := hcut
              obtain ⟨g2, c2, e2, -, -, -, -, hc2'⟩ := hR.get hyk
              simp only [Value.slice.injEq, true_and] at e2
              obtain ⟨e3, -, rfl⟩ := e2
              cases e3
              have p0 := hc2' 0 _ rfl
              have p1 := hc2' 1 _ rfl
              have p2 := hc2' 2 _ rfl
              have p3 := hc2' 3 _ rfl
              rw [Nat.add_zero] at p0
              have HE := Lib.hid (And.intro hA hR)
              clear hc2' hA hR
              by_cases hla : l.a = asid
              · have hlb : (l.a == asid) = true := by simpa using hla
                rw [hlb] at hx HL ⊢
                rw [if_pos rfl] at hx HL
                have x0 : wc.cell? ⟨x, 0, none⟩ = some (.int .i64 0) := by rw [cell_of_ob hx]; rfl
                have x1 : wc.cell? ⟨x, 1, none⟩ = some (.int .i64 0) := by rw [cell_of_ob hx]; rfl
                have x2 : wc.cell? ⟨x, 2, none⟩ = some (.int .i64 0) := by rw [cell_of_ob hx]; rfl
                have x3 : wc.cell? ⟨x, 3, none⟩ = some (.bool false) := by rw [cell_of_ob hx]; rfl
                have hd1 : (l.a != asid) = false := by simpa using hla
                have hd2 : (!(l.a != asid)) = true := by rw [hd1]; rfl
                have HL1 : Hid (L1 = L) := Lib.hid (by have := HL.out; omega)
                have hi0 : (0 : Int) ≤ (k : Int) := by omega
                have hi1 : (k : Int) < (m : Int) := by omega
                have hk1 : (k : Int) + 1 ≤ 9 := by omega
                clear hx HL HFd hla hc1 hc2 hdn hkm left left_1 hyk h100
                generalize hnb : (!true) = nb at *
                obtain rfl : nb = false := by rw [← hnb]; rfl
                go_wp2_with fail
                go_quiet (fail)
                clear hnb hd1 hd2 hlb p0 p1 p2 p3 x0 x1 x2 x3 b1 b2 hn HF hi0 hi1 hL1 hL2
                go_wp2
                go_roundg (m - (k + 1))
                case measure => omega
                case rel => exact ⟨k + 1, by go_num, by omega, rfl, by rw [HLe.out, HL1.out], HE.out.1.drewN _, HE.out.2.keep ((Keep.refl [] _).drewN _) (by simp)⟩
              · have hlb : (l.a == asid) = false := by simpa using hla
                rw [hlb] at hx HL ⊢
                rw [if_neg (by simp)] at hx HL
                have x0 : wc.cell? ⟨x, 0, none⟩ = some (.int .i64 l.a) := by rw [cell_of_ob hx]; rfl
                have x1 : wc.cell? ⟨x, 1, none⟩ = some (.int .i64 l.p) := by rw [cell_of_ob hx]; rfl
                have x2 : wc.cell? ⟨x, 2, none⟩ = some (.int .i64 l.f) := by rw [cell_of_ob hx]; rfl
                have x3 : wc.cell? ⟨x, 3, none⟩ = some (.bool l.w) := by rw [cell_of_ob hx]; rfl
                have hd1 : (l.a != asid) = true := by simpa using hla
                have hd2 : (!(l.a != asid)) = false := by rw [hd1]; rfl
                have HL1 : Hid (L1 = L + 1) := Lib.hid (by have := HL.out; omega)
                have hL3 : L + 1 ≤ m := by have := HL1.out; omega
                have hi0 : (0 : Int) ≤ (k : Int) := by omega
                have hi1 : (k : Int) < (m : Int) := by omega
                have hk1 : (k : Int) + 1 ≤ 9 := by omega
                clear hx HL HFd hla hc1 hc2 hdn hkm left left_1 hyk h100
                generalize hnb : (!false) = nb at *
                obtain rfl : nb = true := by rw [← hnb]; rfl
                go_wp2_with fail
                go_quiet (fail)
                clear hnb hd1 hd2 hlb p0 p1 p2 p3 x0 x1 x2 x3 b1 b2 hn HF hi0 hi1 hL1 hL2
                go_wp2
                go_roundg (m - (k + 1))
                case measure => omega
                case rel => exact ⟨k + 1, by go_num, by omega, rfl, by rw [HLe.out, HL1.out]; go_num, HE.out.1.drewN _, HE.out.2.keep ((Keep.refl [] _).drewN _) (by simp)⟩
          · obtain rfl : k = m := by omega
            have HE := Lib.hid (And.intro hA hR)
            have hL0 := HF.out.2.1 k
            have HC := Lib.hid HF.out.2.2.1
            have HN := Lib.hid HF.out.2.2.2.1
            have HZ := Lib.hid HF.out.2.2.2.2.1
            generalize leftN asid ys k = L at *
            have hd1 : ((dn : Int) == ((k : Int) - (L : Int))) = true := by have := HC.out; simp; omega
            clear hA hR HF hc1 hc2 hn h100 hdn hkm
            go_wp2_with fail
            refine HE.out.1.lines.mono ?_
            rintro _ w7 ⟨va2, vc2, rfl, _, hA7, hk7⟩
            rw [HN.out]
            have HE7 := Lib.hid hA7
            clear hA7 hk7 hd1 HE HC
            go_wp2_with fail
            refine (HE7.out.flush asid).mono ?_
            rintro _ w8 ⟨rfl, hA8, hk8⟩
            rw [HZ.out]
            have HE8 := Lib.hid hA8.kp
            clear hA8 hk8 HE7
            go_wp2
            go_ret
            exact ⟨rfl, HE8.out⟩
  · have hE := hA0.kp
    clear hA0 hv hx
    go_wp2
    go_ret
    exact ⟨rfl, hE⟩
end Go.Proofs.Ytfihnnijcaapkaa
