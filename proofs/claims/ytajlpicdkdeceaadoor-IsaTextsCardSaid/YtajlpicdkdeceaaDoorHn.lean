import Derived.Test.YtajlpicdkdeceaaDoorHl
namespace Go.Proofs.YtajlpicdkdeceaaDoor
open Go.RowKit
set_option linter.unusedSimpArgs false
set_option linter.unusedVariables false
attribute [local go_sem] ob_alloc ob_drew ob_drewN ob_setCell ob_setBlock objSet_cells obMap_map obClock_map isMapI_map keyI_mk findI_nil findI_cons lookRes_some lookRes_none lookRes_some' lookRes_none' setBlock_alloc mapPut
open Go.Lib

set_option maxRecDepth 100000 in
set_option maxHeartbeats 4000000 in
theorem rRead (w : World) (s : ByteArray) (hs : s.size ≤ 1000) : Calls Tryd.prog 11 #[.string s] w (ReadP w (decT s.data.toList)) := by
  obtain ⟨N, hN⟩ : ∃ N, s.size = N := ⟨_, rfl⟩
  have hl : s.data.toList.length = N := by rw [← hN]; exact Array.length_toList
  rw [hN] at hs
  have HL := Lib.hid hl
  clear hl
  have hA : Keep [] w (w.alloc (.cells #[.int .i64 0, .int .i64 0, .int .i64 0, .int .i64 0, .int .i64 0] 23)) := (Keep.refl _ _).alloc _
  have hS0 : SW w (w.alloc (.cells #[.int .i64 0, .int .i64 0, .int .i64 0, .int .i64 0, .int .i64 0] 23)) w.heap.size (.slice none 0 0) [] := ⟨RowE.nil _ _, al_new w (.cells #[.int .i64 0, .int .i64 0, .int .i64 0, .int .i64 0, .int .i64 0] 23) rfl, hA⟩
  have H0 := Lib.hid hS0
  clear hS0 hA
  go_enter Tryd.func11, Tryd.ntmps11
  go_wp2_with fail
  have h0 := H0.out
  clear H0
  generalize w.alloc (.cells #[.int .i64 0, .int .i64 0, .int .i64 0, .int .i64 0, .int .i64 0] 23) = w1 at *
  obtain ⟨rb, hrb⟩ : ∃ rb, w.heap.size = rb := ⟨_, rfl⟩
  have HRE := Lib.hid hrb
  have h00 : SW w w1 rb (.slice none 0 0) [] := by rw [← hrb]; exact h0
  try simp only [hrb]
  have H0 := Lib.hid h00
  clear hrb h0 h00
  go_loopg [4, 5, 6] (N + 1) (fun gn s4 s5 s6 wr => ∃ (k fr : Nat) (v : Value) (xs : List ByteArray), v = s4 ∧ s5 = .int .i64 fr ∧ s6 = .int .i64 k ∧ k ≤ N + 1 ∧ fr ≤ k ∧ gn = N + 1 - k ∧ SW w wr rb v xs ∧ xs.length ≤ k ∧ SP s.data.toList N k fr (xs.map (·.data.toList)))
  case atStart => exact ⟨0, 0, _, [], rfl, rfl, rfl, by omega, by omega, rfl, H0.out, by simp, sp_start _ _⟩
  case round =>
    clear H0
    obtain ⟨k, fr, v, xs, rfl, rfl, rfl, hk, hfr, rfl, hS, hxl, hSP⟩ := hrel
    obtain ⟨sl, scl, rfl⟩ := hS.row.slice
    obtain ⟨M, hM⟩ : ∃ M, xs.length = M := ⟨_, rfl⟩
    rw [hM] at hS hxl ⊢
    have HM := Lib.hid hM
    by_cases hlt : k ≤ N
    · have hle : (k : Int) ≤ N := by omega
      have hfr' : (fr : Int) ≤ k := by omega
      obtain ⟨va, vc, w2, happ, hS2⟩ := hS.push (s.extract fr k) (by rw [hM]; omega)
      rw [hM] at happ hS2
      have hxd : (xs ++ [s.extract fr k]).map (·.data.toList) = xs.map (·.data.toList) ++ [(s.data.toList.drop fr).take (k - fr)] := by
        rw [List.map_append, List.map_cons, List.map_nil, extract_data]
      have HS2 := Lib.hid (And.intro hS2 hxd)
      have HS := Lib.hid (And.intro hS hSP)
      clear hS hSP hS2 hxd hM
      by_cases hkN : k = N
      · subst hkN
        have hend := sp_end HS.out.2 HL.out
        rw [← HS2.out.2] at hend
        have HE := Lib.hid hend
        clear hend HS
        go_wp2_with (at_builtin; refine wpList_append_eq rfl _ _ _ rfl rfl rfl (happ _) ?_)
        clear happ
        go_roundg (k + 1 - (k + 1))
        case measure => omega
        case rel => exact ⟨k + 1, k + 1, _, _, rfl, by go_num, by go_num, by omega, by omega, rfl, HS2.out.1, by rw [List.length_append, HM.out]; simp; omega, HE.out⟩
      · have hkN2 : k < N := by omega
        have hkN3 : (k : Int) < N := by omega
        have hkN4 : ((k : Int) == (N : Nat)) = false := by simp; omega
        have hks : k < s.size := by omega
        have hget : s.data.toList[k]? = some (s[k]'hks) := by
          rw [List.getElem?_eq_getElem (by rw [HL.out]; omega)]; rfl
        obtain ⟨cn, hcn⟩ : ∃ cn, (s[k]'hks).toNat = cn := ⟨_, rfl⟩
        have HG := Lib.hid hget
        clear hget
        by_cases h32 : cn = 32
        · have hcut := sp_cut HS.out.2 HL.out hkN2 (by
            rw [HG.out]
            congr 1
            exact UInt8.toNat_inj.1 (by rw [hcn, h32]; rfl))
          rw [← HS2.out.2] at hcut
          have HE := Lib.hid hcut
          rw [h32] at hcn
          clear hcut HS HG h32
          go_wp2_with (at_builtin; refine wpList_append_eq rfl _ _ _ rfl rfl rfl (happ _) ?_)
          clear happ
          go_roundg (N + 1 - (k + 1))
          case measure => omega
          case rel => exact ⟨k + 1, k + 1, _, _, rfl, by go_num, by go_num, by omega, by omega, rfl, HS2.out.1, by rw [List.length_append, HM.out]; simp; omega, HE.out⟩
        · have hskip := sp_skip HS.out.2 hkN2 (by
            rw [HG.out]
            intro e
            have e2 := congrArg UInt8.toNat (Option.some.inj e)
            rw [hcn] at e2
            exact h32 e2)
          have HE := Lib.hid hskip
          have h32' : ((cn : Int) == 32) = false := by simp; omega
          clear hskip HG happ
          go_wp2_with fail
          go_roundg (N + 1 - (k + 1))
          case measure => omega
          case rel => exact ⟨k + 1, fr, _, _, rfl, rfl, by go_num, by omega, by omega, rfl, HS.out.1, by rw [HM.out]; omega, HE.out⟩
    · obtain rfl : k = N + 1 := by omega
      have hsp : spl s.data.toList = xs.map (·.data.toList) := hSP.2 (by omega)
      have hne : xs ≠ [] := fun e => spl_ne s.data.toList (by rw [hsp, e]; rfl)
      obtain ⟨g, cap, hve, hg, hcells⟩ := hS.cells hne
      rw [hM] at hve
      simp only [Value.slice.injEq, true_and] at hve
      obtain ⟨rfl, rfl⟩ := hve
      have hgt : ¬ ((N + 1 : Nat) : Int) ≤ N := by omega
      have h0x : xs[0]? = some (xs[0]'(List.length_pos_iff.2 hne)) := List.getElem?_eq_getElem _
      obtain ⟨l0, hl0⟩ : ∃ l0, (xs[0]'(List.length_pos_iff.2 hne)) = l0 := ⟨_, rfl⟩
      rw [hl0] at h0x
      obtain ⟨lt, hspl⟩ : ∃ lt, spl s.data.toList = l0.data.toList :: lt := by
        rw [hsp]
        cases xs with
        | nil => simp at hne
        | cons x0 t => simp at hl0; exact ⟨t.map (·.data.toList), by rw [← hl0]; rfl⟩
      have hM1 : 1 ≤ M := by rw [← hM]; exact List.length_pos_iff.2 hne
      have hxs : ∀ x ∈ xs, x.size ≤ 1000 := fun x hx => by
        have h1 : x.data.toList ∈ spl s.data.toList := by rw [hsp]; exact List.mem_map.2 ⟨x, hx, rfl⟩
        have h2 := spl_le _ _ h1
        have e1 := HL.out
        have e2 : x.data.toList.length = x.size := Array.length_toList
        omega
      have HSP := Lib.hid (And.intro hsp (And.intro hspl (And.intro hxs h0x)))
      obtain ⟨wr0, hwr0⟩ : ∃ w0, wr = w0 := ⟨_, rfl⟩
      rw [hwr0] at hg hcells
      have HSW := Lib.hid (And.intro hS hwr0)
      have HC := Lib.hid hcells
      clear hwr0 hsp hspl hS hSP hcells hl0 h0x hne hM hxs
      go_wp2_with fail
      clear hgt
      go_loopg [7] 12 (fun gn s7 wy => ∃ o : Nat, s7 = .int .i64 o ∧ o ≤ 12 ∧ gn = 12 - o ∧ SW w wy rb (.slice (some ⟨g, 0, none⟩) M scl) xs ∧ Keep [] wr0 wy ∧ ∀ i0, right i0 = true → text i0 = s.data.toList → (o : Int) ≤ i0.op)
      case atStart => exact ⟨0, rfl, by omega, rfl, HSW.out.1, by rw [← HSW.out.2]; exact Keep.refl _ _, fun i0 h1 _ => by have := (right_bd h1).1; omega⟩
      case round =>
        clear HSW
        obtain ⟨o, rfl, ho, rfl, hS, hk0, hio⟩ := hrel
        by_cases ho12 : o < 12
        · have ho12' : (o : Int) < 12 := by omega
          have c0 : wr.cell? ⟨g, 0, none⟩ = some (.string l0) := (cell_old hk0 hg).trans (HC.out 0 l0 HSP.out.2.2.2)
          have lg := Nat.lt_of_lt_of_le hg hk0.size
          have hM1' : 0 < M := by omega
          have hq2 : ∀ w' w'', (w'.cell? ⟨g, 0, none⟩ = some (.string l0) ∧ Keep [] wr w') → Keep [] w' w'' → (w''.cell? ⟨g, 0, none⟩ = some (.string l0) ∧ Keep [] wr w'') := fun w' w'' h1 h2 => by
            have h3 := h1.2.trans h2
            exact ⟨(cell_old h3 lg).trans c0, h3⟩
          have HS := Lib.hid (And.intro hS (And.intro hk0 hio))
          clear hS hk0 hio
          obtain ⟨wb, hwb⟩ : ∃ wb, wdB o = wb := ⟨_, rfl⟩
          have hwbd : wb.data.toList = wd o := by rw [← hwb]; rfl
          have HN := Lib.hid (fun w => hwb ▸ rName o ho12 w)
          by_cases hoe : wd o = l0.data.toList
          · have heq : (wb.toList == l0.toList) = true := by
              rw [ByteArray.toList_eq, ByteArray.toList_eq, hwbd, hoe]; simp
            have HOE := Lib.hid hoe
            clear hwb hwbd hoe
            go_upto_region 12 with fail
            go_region_held3 (fun w' => w'.cell? ⟨g, 0, none⟩ = some (.string l0) ∧ Keep [] wr w') (first | exact ⟨c0, (Keep.refl _ _).drew⟩ | exact hq2 _ _ (by assumption) (by assumption) | go_keep)
              (first | (go_at_call 23; refine (HN.out _).mono ?_; rintro _ w9 ⟨rfl, hk9⟩))
            have hk29 := ‹_ ∧ Keep [] wr _›.2
            have HS9 := Lib.hid (And.intro (HS.out.1.new hk29) (HS.out.2.1.trans hk29))
            clear hk9 hk29 hq2 c0 HN
            go_wp2_with fail
            have HNM := Lib.hid (fun w => rNames o ho12 w)
            refine (HNM.out _).mono ?_
            rintro _ w10 ⟨rfl, hk10⟩
            generalize hh1 : has o 1 = n1 at *
            generalize hh2 : has o 2 = n2 at *
            generalize hh3 : has o 3 = n3 at *
            generalize hh4 : has o 4 = n4 at *
            have HH := Lib.hid (And.intro hh1 (And.intro hh2 (And.intro hh3 hh4)))
            have hA := (Keep.refl [] w10).alloc (.cells #[.bool n1, .bool n2, .bool n3, .bool n4] 49)
            have HS10 := Lib.hid (And.intro (HS9.out.1.new (hk10.trans hA)) (And.intro (HS9.out.2.trans (hk10.trans hA)) (al_new w10 (.cells #[.bool n1, .bool n2, .bool n3, .bool n4] 49) rfl)))
            clear hk10 hA HS9 HNM hh1 hh2 hh3 hh4 heq hM1' lg
            go_upto_region 14 with fail
            generalize w10.alloc (.cells #[.bool n1, .bool n2, .bool n3, .bool n4] 49) = w11 at *
            generalize w10.heap.size = nb at *
            have hB := (Keep.refl [] w11).alloc (.cells #[.int .i64 0, .int .i64 0, .int .i64 0, .int .i64 0] 51)
            have hp0 : ob (w11.alloc (.cells #[.int .i64 0, .int .i64 0, .int .i64 0, .int .i64 0] 51)) w11.heap.size = some (.cells (blk (vI fun _ => 0) 4) 51 (0, 0)) := al_new w11 (.cells #[.int .i64 0, .int .i64 0, .int .i64 0, .int .i64 0] 51) rfl
            have HS11 := Lib.hid (And.intro (HS10.out.1.new hB) (And.intro (HS10.out.2.1.trans hB) (And.intro (hB.kp HS10.out.2.2 (by simp)) hp0)))
            have hpbn := Nat.le_trans HS10.out.1.kp.size (Nat.le_refl w11.heap.size)
            have hpbg : g < w11.heap.size := Nat.lt_of_lt_of_le hg HS10.out.2.1.size
            have hpbr := HS10.out.2.1.size
            have HPN := Lib.hid (And.intro hpbn hpbr)
            clear hB hp0 HS10 hpbn hpbr
            go_wp2_with fail
            generalize w11.alloc (.cells #[.int .i64 0, .int .i64 0, .int .i64 0, .int .i64 0] 51) = w12 at *
            generalize w11.heap.size = pb at *
            go_loopg [10, 11] 4 (fun gn s10 s11 wz => ∃ (k at' : Nat) (p : Nat → Int), s10 = .int .i64 at' ∧ s11 = .int .i64 k ∧ k ≤ 4 ∧ gn = 4 - k ∧ 1 ≤ at' ∧ at' ≤ k + 1 ∧ SW w wz rb (.slice (some ⟨g, 0, none⟩) M scl) xs ∧ Keep [] wr0 wz ∧
              ob wz nb = some (.cells #[.bool n1, .bool n2, .bool n3, .bool n4] 49 (0, 0)) ∧ ob wz pb = some (.cells (blk (vI p) 4) 51 (0, 0)) ∧ (∀ j, 0 ≤ p j ∧ p j ≤ 655359) ∧ (∀ j, k ≤ j → p j = 0) ∧
              ∀ i0, right i0 = true → text i0 = s.data.toList → at' = 1 + ((List.range (k + 1)).filter (named o)).length ∧ ∀ j, j < k → p j = i0.f (j + 1))
            case atStart => exact ⟨0, 1, _, rfl, rfl, by omega, rfl, by omega, by omega, HS11.out.1, HS11.out.2.1, HS11.out.2.2.1, HS11.out.2.2.2, fun j => by omega, fun j _ => rfl, fun i0 _ _ => ⟨rfl, fun j hj => by omega⟩⟩
            case round =>
              clear HS11
              obtain ⟨k, at', p, rfl, rfl, hk, rfl, ha1, ha2, hS, hk0, hnb, hpb, hpv, hpz, hpi⟩ := hrel
              by_cases hlt : k < 4
              · have hk4 : (k : Int) < 4 := by omega
                obtain ⟨B, hB⟩ : ∃ B, has o (k + 1) = B := ⟨_, rfl⟩
                have hnm : named o (k + 1) = B := by unfold named; rw [hB]; simp
                have q0 : wr.cell? ⟨nb, k, none⟩ = some (.bool B) := by
                  rw [cell_of_ob hnb, ← hB]
                  obtain ⟨g1, g2, g3, g4⟩ := HH.out
                  match k, hlt with
                  | 0, _ => rw [g1]; rfl
                  | 1, _ => rw [g2]; rfl
                  | 2, _ => rw [g3]; rfl
                  | 3, _ => rw [g4]; rfl
                have l0' := ob_lt hnb
                have HR := Lib.hid (And.intro hS (And.intro hk0 (And.intro hnb (And.intro hpb (And.intro hpv (And.intro hpz (And.intro hpi hnm)))))))
                clear hS hk0 hnb hpv hpz hpi hnm hB
                cases B with
                | false =>
                  clear hpb
                  go_wp2_with fail
                  go_roundg (4 - (k + 1))
                  case measure => omega
                  case rel =>
                    obtain ⟨r0, r1, r2, r3, r4, r5, r6, r7⟩ := HR.out
                    refine ⟨k + 1, at', p, rfl, by go_num, by omega, rfl, ha1, by omega, r0, r1, r2, r3, r4, fun j hj => r5 j (by omega), fun i0 h1 h2 => ?_⟩
                    obtain ⟨t1, t2⟩ := r6 i0 h1 h2
                    refine ⟨by rw [cnt_same o k r7]; exact t1, fun j hj => ?_⟩
                    by_cases e : j = k
                    · rw [e, r5 k (Nat.le_refl _)]
                      have hop := (op_of HSP.out.2.1 ho12 HOE.out h1 h2).1
                      refine (right_named h1 (k := k + 1) (by omega) (by omega) ?_).symm
                      rw [hop, Int.toNat_natCast]
                      have := r7
                      unfold named at this
                      simpa using this
                    · exact t2 j (by omega)
                | true =>
                  by_cases hat : at' < M
                  · have hat' : (at' : Int) < M := by omega
                    have hat2 : ¬ (M : Int) ≤ at' := by omega
                    have hx : xs[at']? = some (xs[at']'(by have := HM.out; omega)) := List.getElem?_eq_getElem _
                    generalize (xs[at']'(by have := HM.out; omega)) = x at hx
                    have hxs := HSP.out.2.2.1 x (List.mem_of_getElem? hx)
                    have c1 : wr.cell? ⟨g, at', none⟩ = some (.string x) := (cell_old HR.out.2.1 hg).trans (HC.out at' x hx)
                    have lg := Nat.lt_of_lt_of_le hg HR.out.2.1.size
                    have c2 := blk_cell hpb hlt
                    have f2 := free_of_ob hpb k
                    have l2 := ob_lt hpb
                    have HX := Lib.hid hx
                    clear hx hpb
                    obtain ⟨V, hV⟩ : ∃ V, numF 0 (if k < 3 then x.data.toList.drop 1 else x.data.toList) = V := ⟨_, rfl⟩
                    have hVb : 0 ≤ V ∧ V ≤ 655359 := by rw [← hV]; exact num_bd _ _ (by omega) (by omega)
                    have HVV := Lib.hid hV
                    have HVB := Lib.hid hVb
                    have hat5 : (at' : Int) ≤ 5 := by omega
                    clear hVb
                    by_cases k3 : k < 3
                    · have k3' : (k : Int) < 3 := by omega
                      rw [if_pos k3] at hV
                      by_cases hx0 : 0 < x.size
                      · have hx0' : (0 : Int) < (x.size : Nat) := by omega
                        have hx1 : (1 : Int) ≤ (x.size : Nat) := by omega
                        have hyd : (x.extract 1 x.size).data.toList = x.data.toList.drop 1 := extract_to_end x 1
                        have hys : (x.extract 1 x.size).size ≤ 1000 := by
                          have e1 : (x.extract 1 x.size).data.toList.length = (x.extract 1 x.size).size := Array.length_toList
                          have e2 : x.data.toList.length = x.size := Array.length_toList
                          rw [hyd, List.length_drop] at e1
                          omega
                        have HNU := Lib.hid (fun w => by have := rNumber w (x.extract 1 x.size) hys; rw [hyd, hV] at this; exact this : ∀ w : World, Calls Tryd.prog 32 #[.string (x.extract 1 x.size)] w fun e w' => e = .returned (.int .i64 V) ∧ w' = w)
                        clear hyd hys hV
                        go_wp2_with fail
                        refine (HNU.out _).mono ?_
                        rintro _ w20 ⟨rfl, hw20⟩
                        obtain rfl : wr = w20 := hw20.symm
                        go_wp2_with fail
                        go_roundg (4 - (k + 1))
                        case measure => omega
                        case rel =>
                          obtain ⟨r0, r1, r2, r3, r4, r5, r6, r7⟩ := HR.out
                          have hK : Keep [pb] wr (wr.setCell ⟨pb, k, none⟩ (.int .i64 V)) := (Keep.refl _ _).setCell (.inl (by simp)) _ _
                          have ho := blk_store r3 k (.int .i64 V)
                          rw [vI_upd] at ho
                          refine ⟨k + 1, at' + 1, updW p k V, by go_num, by go_num, by omega, rfl, by omega, by omega, r0.put r3 HPN.out.1 _ _, r1.andThen hK (by intro y hy; simp at hy; subst hy; exact .inr HPN.out.2), hK.kp r2 (fun hm => ?_), ho, fun j => ?_, fun j hj => ?_, fun i0 h1 h2 => ?_⟩
                          · simp at hm
                            rw [hm] at r2
                            rw [r3] at r2
                            simp at r2
                          · unfold updW
                            split
                            · exact HVB.out
                            · exact r4 j
                          · unfold updW
                            rw [if_neg (by omega)]
                            exact r5 j (by omega)
                          · obtain ⟨t1, t2⟩ := r6 i0 h1 h2
                            refine ⟨by rw [cnt_succ o k r7]; omega, fun j hj => ?_⟩
                            unfold updW
                            split
                            · rename_i e
                              rw [e, ← HVV.out]
                              exact num_read HSP.out.2.1 ho12 HOE.out h1 h2 hlt r7 t1 (by rw [HSP.out.1, List.getElem?_map, HX.out]; rfl)
                            · exact t2 j (by omega)
                      · have hx0' : ¬ (0 : Int) < (x.size : Nat) := by omega
                        have hxe : x.data.toList.drop 1 = x.data.toList := by
                          have e2 : x.data.toList.length = x.size := Array.length_toList
                          rw [List.eq_nil_of_length_eq_zero (l := x.data.toList) (by omega)]
                          rfl
                        rw [hxe] at hV
                        have HNU := Lib.hid (fun w => hV ▸ rNumber w x hxs)
                        clear hxe hV
                        go_wp2_with fail
                        refine (HNU.out _).mono ?_
                        rintro _ w20 ⟨rfl, hw20⟩
                        obtain rfl : wr = w20 := hw20.symm
                        go_wp2_with fail
                        go_roundg (4 - (k + 1))
                        case measure => omega
                        case rel =>
                          obtain ⟨r0, r1, r2, r3, r4, r5, r6, r7⟩ := HR.out
                          have hK : Keep [pb] wr (wr.setCell ⟨pb, k, none⟩ (.int .i64 V)) := (Keep.refl _ _).setCell (.inl (by simp)) _ _
                          have ho := blk_store r3 k (.int .i64 V)
                          rw [vI_upd] at ho
                          refine ⟨k + 1, at' + 1, updW p k V, by go_num, by go_num, by omega, rfl, by omega, by omega, r0.put r3 HPN.out.1 _ _, r1.andThen hK (by intro y hy; simp at hy; subst hy; exact .inr HPN.out.2), hK.kp r2 (fun hm => ?_), ho, fun j => ?_, fun j hj => ?_, fun i0 h1 h2 => ?_⟩
                          · simp at hm
                            rw [hm] at r2
                            rw [r3] at r2
                            simp at r2
                          · unfold updW
                            split
                            · exact HVB.out
                            · exact r4 j
                          · unfold updW
                            rw [if_neg (by omega)]
                            exact r5 j (by omega)
                          · obtain ⟨t1, t2⟩ := r6 i0 h1 h2
                            refine ⟨by rw [cnt_succ o k r7]; omega, fun j hj => ?_⟩
                            unfold updW
                            split
                            · rename_i e
                              rw [e, ← HVV.out]
                              exact num_read HSP.out.2.1 ho12 HOE.out h1 h2 hlt r7 t1 (by rw [HSP.out.1, List.getElem?_map, HX.out]; rfl)
                            · exact t2 j (by omega)
                    · have k3' : ¬ (k : Int) < 3 := by omega
                      rw [if_neg k3] at hV
                      have HNU := Lib.hid (fun w => hV ▸ rNumber w x hxs)
                      clear hV
                      go_wp2_with fail
                      refine (HNU.out _).mono ?_
                      rintro _ w20 ⟨rfl, hw20⟩
                      obtain rfl : wr = w20 := hw20.symm
                      go_wp2_with fail
                      go_roundg (4 - (k + 1))
                      case measure => omega
                      case rel =>
                        obtain ⟨r0, r1, r2, r3, r4, r5, r6, r7⟩ := HR.out
                        have hK : Keep [pb] wr (wr.setCell ⟨pb, k, none⟩ (.int .i64 V)) := (Keep.refl _ _).setCell (.inl (by simp)) _ _
                        have ho := blk_store r3 k (.int .i64 V)
                        rw [vI_upd] at ho
                        refine ⟨k + 1, at' + 1, updW p k V, by go_num, by go_num, by omega, rfl, by omega, by omega, r0.put r3 HPN.out.1 _ _, r1.andThen hK (by intro y hy; simp at hy; subst hy; exact .inr HPN.out.2), hK.kp r2 (fun hm => ?_), ho, fun j => ?_, fun j hj => ?_, fun i0 h1 h2 => ?_⟩
                        · simp at hm
                          rw [hm] at r2
                          rw [r3] at r2
                          simp at r2
                        · unfold updW
                          split
                          · exact HVB.out
                          · exact r4 j
                        · unfold updW
                          rw [if_neg (by omega)]
                          exact r5 j (by omega)
                        · obtain ⟨t1, t2⟩ := r6 i0 h1 h2
                          refine ⟨by rw [cnt_succ o k r7]; omega, fun j hj => ?_⟩
                          unfold updW
                          split
                          · rename_i e
                            rw [e, ← HVV.out]
                            exact num_read HSP.out.2.1 ho12 HOE.out h1 h2 hlt r7 t1 (by rw [HSP.out.1, List.getElem?_map, HX.out]; rfl)
                          · exact t2 j (by omega)
                  · have hat' : (M : Int) ≤ at' := by omega
                    clear hpb
                    go_wp2_with fail
                    go_roundg (4 - (k + 1))
                    case measure => omega
                    case rel =>
                      obtain ⟨r0, r1, r2, r3, r4, r5, r6, r7⟩ := HR.out
                      refine ⟨k + 1, at', p, rfl, by go_num, by omega, rfl, ha1, by omega, r0, r1, r2, r3, r4, fun j hj => r5 j (by omega), fun i0 h1 h2 => ?_⟩
                      exfalso
                      obtain ⟨t1, t2⟩ := r6 i0 h1 h2
                      have h3 := len_read HSP.out.2.1 ho12 HOE.out h1 h2 hlt r7
                      rw [← t1, HSP.out.1, List.length_map, HM.out] at h3
                      omega
              · obtain rfl : k = 4 := by omega
                obtain ⟨x0, hx0⟩ : ∃ x, p 0 = x := ⟨_, rfl⟩
                obtain ⟨x1, hx1⟩ : ∃ x, p 1 = x := ⟨_, rfl⟩
                obtain ⟨x2, hx2⟩ : ∃ x, p 2 = x := ⟨_, rfl⟩
                obtain ⟨x3, hx3⟩ : ∃ x, p 3 = x := ⟨_, rfl⟩
                obtain ⟨I, hI⟩ : ∃ I : IN, (⟨(o : Int), x0, x1, x2, x3⟩ : IN) = I := ⟨_, rfl⟩
                have hIw : I.wf := fun q => by
                  rw [← hI]
                  match q with
                  | 0 => simp only [IN.f]; omega
                  | 1 => have := hpv 0; simp only [IN.f]; omega
                  | 2 => have := hpv 1; simp only [IN.f]; omega
                  | 3 => have := hpv 2; simp only [IN.f]; omega
                  | _ + 4 => have := hpv 3; simp only [IN.f]; omega
                have hII : ∀ i0, right i0 = true → text i0 = s.data.toList → I = i0 := fun i0 h1 h2 => by
                  obtain ⟨_, t2⟩ := hpi i0 h1 h2
                  have hop := (op_of HSP.out.2.1 ho12 HOE.out h1 h2).1
                  have f0 := t2 0 (by omega)
                  have f1 := t2 1 (by omega)
                  have f2 := t2 2 (by omega)
                  have f3 := t2 3 (by omega)
                  rw [hx0] at f0
                  rw [hx1] at f1
                  rw [hx2] at f2
                  rw [hx3] at f3
                  obtain ⟨a0, a1, a2, a3, a4⟩ := i0
                  rw [← hI]
                  simp only [IN.f, IN.mk.injEq] at *
                  exact ⟨hop.symm, f0, f1, f2, f3⟩
                have hVI : inV I = .agg #[.int .i64 (o : Int), .int .i64 x0, .int .i64 x1, .int .i64 x2, .int .i64 x3] := by rw [← hI]; rfl
                have c0 := blk_cell hpb (i := 0) (by omega)
                have c1 := blk_cell hpb (i := 1) (by omega)
                have c2 := blk_cell hpb (i := 2) (by omega)
                have c3 := blk_cell hpb (i := 3) (by omega)
                have lp := ob_lt hpb
                simp only [vI, hx0, hx1, hx2, hx3] at c0 c1 c2 c3
                have hB := (Keep.refl [] wr).alloc (.cells #[.int .i64 (o : Int), .int .i64 x0, .int .i64 x1, .int .i64 x2, .int .i64 x3] 23)
                have HA2 := Lib.hid (And.intro (hS.new hB) (And.intro (hk0.trans hB) (al_new wr (.cells #[.int .i64 (o : Int), .int .i64 x0, .int .i64 x1, .int .i64 x2, .int .i64 x3] 23) rfl)))
                have HII := Lib.hid hII
                have HIV := Lib.hid hVI
                have HIW := Lib.hid hIw
                clear hI hIw hII hVI hx0 hx1 hx2 hx3 hpi hpz hpv hnb hpb hB hS hk0
                go_wp2_with fail
                have ha2 := HA2.out
                clear HA2 c0 c1 c2 c3 lp
                generalize wr.alloc (.cells #[.int .i64 (o : Int), .int .i64 x0, .int .i64 x1, .int .i64 x2, .int .i64 x3] 23) = w16 at *
                generalize wr.heap.size = ci at *
                rw [← HIV.out]
                refine (rText w16 I HIW.out).mono ?_
                rintro e w17 ⟨hk17, he⟩
                rw [HIV.out]
                have HF := Lib.hid (And.intro (ha2.1.new hk17) (ha2.2.1.trans hk17))
                have hci := hk17.kp ha2.2.2 (by simp)
                clear hk17 ha2
                cases hr : right I with
                | false =>
                  have HNO : Hid (∀ i0, right i0 = true → text i0 = s.data.toList → ¬ I = i0) := Lib.hid (fun i0 h1 _ e => by rw [e, h1] at hr; cases hr)
                  rw [hr] at he
                  simp only [Bool.false_eq_true, if_false] at he
                  subst he
                  clear hr hci
                  go_wp2_with fail
                  go_roundg (12 - (o + 1))
                  case measure => omega
                  case rel => exact ⟨o + 1, by go_num, by omega, rfl, HF.out.1, HF.out.2, fun i0 h1 h2 => absurd (HII.out i0 h1 h2) (HNO.out i0 h1 h2)⟩
                | true =>
                  have HR := Lib.hid hr
                  rw [hr] at he
                  simp only [if_true] at he
                  subst he
                  clear hr
                  by_cases hts : text I = s.data.toList
                  · have HD : Hid (decT s.data.toList = some I) := Lib.hid (decT_some HR.out hts)
                    have htb : toB (text I) = s := by unfold toB; rw [hts]
                    rw [htb]
                    obtain ⟨r0, r1, r2, r3, r4, lc⟩ := rd_in hci
                    have HRB := Lib.hid HF.out.1.orb
                    have HKF := Lib.hid HF.out.1.kp
                    clear hts htb hci
                    go_wp2_with (refine wpList_store_mid rfl 23 (.tmp 2) (.tmp 108) rfl rb 0 (blk (vI (fun q => if q = 0 then (o : Int) else if q = 1 then x0 else if q = 2 then x1 else if q = 3 then x2 else x3)) 5) rfl rfl (blk_there HRB.out (by rw [blk_size]; omega)) (by rw [size23, blk_size]) (blk_all _ _ (fun i _ => rfl)) ?_)
                    refine bodyPost_ret (ret_row_tmp (P := Tryd.prog) Tryd.results11 (cs := blk (vI (fun q => if q = 0 then (o : Int) else if q = 1 then x0 else if q = 2 then x1 else if q = 3 then x2 else x3)) 5) (t := 23) (fr := (0, 0)) (g := rb) (store_blk HRB.out) rfl Tryd.underlying23 rfl (by rw [size23, blk_size])) rfl ?_
                    exact ⟨HKF.out.setCells (.inr (by have := HRE.out; omega)) _ _, by rw [HD.out]; simp only [Option.getD_some]; rw [HIV.out]; rfl⟩
                  · have HNO : Hid (∀ i0, right i0 = true → text i0 = s.data.toList → ¬ I = i0) := Lib.hid (fun i0 _ h2 e => by rw [← e] at h2; exact hts h2)
                    have hne2 : ((toB (text I)).toList == s.toList) = false := by
                      rw [ByteArray.toList_eq, ByteArray.toList_eq]
                      have : (toB (text I)).data.toList ≠ s.data.toList := hts
                      simpa using this
                    generalize toB (text I) = tb at *
                    clear hts hci
                    go_wp2_with fail
                    go_roundg (12 - (o + 1))
                    case measure => omega
                    case rel => exact ⟨o + 1, by go_num, by omega, rfl, HF.out.1, HF.out.2, fun i0 h1 h2 => absurd (HII.out i0 h1 h2) (HNO.out i0 h1 h2)⟩
          · have heq : (wb.toList == l0.toList) = false := by
              rw [ByteArray.toList_eq, ByteArray.toList_eq, hwbd]
              simpa using hoe
            have HOE := Lib.hid hoe
            clear hwb hwbd hoe
            go_upto_region 12 with fail
            go_region_held3 (fun w' => w'.cell? ⟨g, 0, none⟩ = some (.string l0) ∧ Keep [] wr w') (first | exact ⟨c0, (Keep.refl _ _).drew⟩ | exact hq2 _ _ (by assumption) (by assumption) | go_keep)
              (first | (go_at_call 23; refine (HN.out _).mono ?_; rintro _ w9 ⟨rfl, hk9⟩))
            have hk29 := ‹_ ∧ Keep [] wr _›.2
            have HS9 := Lib.hid (And.intro (HS.out.1.new hk29) (HS.out.2.1.trans hk29))
            clear hk9 hk29 hq2 c0 HN
            go_wp2_with fail
            go_roundg (12 - (o + 1))
            case measure => omega
            case rel => exact ⟨o + 1, by go_num, by omega, rfl, HS9.out.1, HS9.out.2, fun i0 h1 h2 => by
              have h3 := HS.out.2.2 i0 h1 h2
              have h4 : i0.op ≠ o := fun e => by
                have h5 := parts_of h2
                rw [HSP.out.2.1] at h5
                have h6 := (List.cons.inj h5).1
                rw [e, Int.toNat_natCast] at h6
                exact HOE.out h6.symm
              omega⟩
        · obtain rfl : o = 12 := by omega
          have HD : Hid (decT s.data.toList = none) := Lib.hid (decT_none (fun i h1 h2 => by
            have h3 := hio i h1 h2
            have h4 := (right_bd h1).1
            omega))
          have HRB := Lib.hid hS.orb
          have HKF := Lib.hid hS.kp
          clear hS hk0 hio
          go_wp2_with (refine wpList_store_mid rfl 23 (.tmp 2) (.tmp 109) rfl rb 0 (blk (vI fun _ => 0) 5) rfl rfl (blk_there HRB.out (by rw [blk_size]; omega)) (by rw [size23, blk_size]) (blk_all _ _ (fun i _ => rfl)) ?_)
          refine bodyPost_ret (ret_row_tmp (P := Tryd.prog) Tryd.results11 (cs := blk (vI fun _ => 0) 5) (t := 23) (fr := (0, 0)) (g := rb) (store_blk HRB.out) rfl Tryd.underlying23 rfl (by rw [size23, blk_size])) rfl ?_
          exact ⟨HKF.out.setCells (.inr (by have := HRE.out; omega)) _ _, by rw [HD.out]; rfl⟩
end Go.Proofs.YtajlpicdkdeceaaDoor
