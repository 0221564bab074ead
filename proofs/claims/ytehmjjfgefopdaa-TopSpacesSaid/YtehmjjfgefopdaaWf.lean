import Derived.Test.YtehmjjfgefopdaaWd
namespace Go.Proofs.Ytehmjjfgefopdaa
open Go.RowKit
set_option linter.unusedSimpArgs false
set_option linter.unusedVariables false
attribute [local go_sem] ob_alloc ob_drew ob_drewN ob_setCell ob_setBlock objSet_cells obMap_map obClock_map isMapI_map keyI_mk findI_nil findI_cons lookRes_some lookRes_none lookRes_some' lookRes_none' setBlock_alloc mapPut

def eC (e : EN) : Array Value := #[.bool e.v, .bool e.w, .bool e.t, .int .i64 (e.f : Int)]
theorem size38 : (Try.prog.info? 38).map (·.size) = some 4 := by kernel_rfl
theorem store_arr {w : World} {b : Nat} {c cs : Array Value} {t : TypeId} (h : ob w b = some (.cells c t (0, 0))) (hs : cs.size = c.size) : ob (w.setCells b 0 cs.toList) b = some (.cells cs t (0, 0)) := by
  have h2 : ob w b = some (.cells (blk (fun i => c.getD i undef) c.size) t (0, 0)) := by rw [← blk_of_array]; exact h
  rw [blk_storeR _ _ _ _ h2]
  congr 2
  rw [blk_of_array cs, hs]
  refine blk_congr fun i hi => ?_
  unfold updR
  have hl : (blk (fun i => cs.getD i undef) c.size).toList.length = c.size := by simp [blk]
  rw [hl, if_pos (by omega)]
  simp [blk, hi]
theorem there_arr {w : World} {b : Nat} {c : Array Value} {t : TypeId} (h : ob w b = some (.cells c t (0, 0))) : w.there b 0 c.size := by
  have h2 : ob w b = some (.cells (blk (fun i => c.getD i undef) c.size) t (0, 0)) := by rw [← blk_of_array]; exact h
  exact blk_there h2 (by omega)
theorem eC_one (e : EN) : (eC e).all (·.oneCell') = true := by simp [eC, Value.oneCell']
/-- a word cut, in work -/
structure OW (w0 w : World) (rb pb : Nat) (p : Nat → Int) : Prop where
  orb : ob w rb = some (.cells #[.bool false, .bool false, .bool false, .int .i64 0] 38 (0, 0))
  opb : ob w pb = some (.cells (blk (vU p) 4) 118 (0, 0))
  kp : Keep [] w0 w
  n1 : w0.heap.size ≤ pb
  n2 : w0.heap.size ≤ rb
  n3 : rb ≠ pb
section
variable {w0 w w' : World} {rb pb : Nat} {p : Nat → Int}
theorem OW.new (h : OW w0 w rb pb p) (hk : Keep [] w w') : OW w0 w' rb pb p := ⟨hk.kp h.orb (by simp), hk.kp h.opb (by simp), h.kp.trans hk, h.n1, h.n2, h.n3⟩
theorem OW.put (h : OW w0 w rb pb p) (j : Nat) (x : Int) : OW w0 (w.setCell ⟨pb, j, none⟩ (.int .u64 x)) rb pb (updW p j x) := by
  have hK : Keep [pb] w (w.setCell ⟨pb, j, none⟩ (.int .u64 x)) := (Keep.refl _ _).setCell (.inl (by simp)) _ _
  have ho := blk_store h.opb j (.int .u64 x)
  rw [vU_upd] at ho
  exact ⟨hK.kp h.orb (by simpa using h.n3), ho, h.kp.andThen hK (by intro y hy; simp at hy; subst hy; exact .inr h.n1), h.n1, h.n2, h.n3⟩
end
set_option maxRecDepth 100000 in
set_option maxHeartbeats 4000000 in
theorem pOf (w : World) (e : EN) (he : okE e = true) : Calls Try.prog 42 #[.int .u64 (wE e : Nat)] w fun o w' => o = .returned (.tuple #[e.val, .int .i64 0]) ∧ Keep [] w w' := by
  have HE := Lib.hid he
  have HC := Lib.hid (fun k hk => wE_cut he k hk)
  have hlt64 : wE e < 2 ^ 64 := Nat.lt_trans (wE_lt he) (by decide)
  have HF := Lib.hid (okE_f he)
  have HW := Lib.hid (fun w => pWord w e he)
  have HL := Lib.hid hlt64
  obtain ⟨X, hX⟩ : ∃ X, wE e = X := ⟨_, rfl⟩
  rw [hX] at HC HW HL ⊢
  clear hX he hlt64
  have h0 : OW w ((w.alloc (.cells #[.bool false, .bool false, .bool false, .int .i64 0] 38)).alloc (.cells #[.int .u64 0, .int .u64 0, .int .u64 0, .int .u64 0] 118)) w.heap.size (w.heap.size + 1) (fun _ => 0) := by
    have k1 : Keep [] w (w.alloc (.cells #[.bool false, .bool false, .bool false, .int .i64 0] 38)) := (Keep.refl _ _).alloc _
    have s1 : (w.alloc (.cells #[.bool false, .bool false, .bool false, .int .i64 0] 38)).heap.size = w.heap.size + 1 := by simp
    have o1 := al_new w (.cells #[.bool false, .bool false, .bool false, .int .i64 0] 38) rfl
    have o2 := al_new (w.alloc (.cells #[.bool false, .bool false, .bool false, .int .i64 0] 38)) (.cells #[.int .u64 0, .int .u64 0, .int .u64 0, .int .u64 0] 118) rfl
    rw [s1] at o2
    exact ⟨((Keep.refl [] _).alloc _).kp o1 (by simp), o2, k1.alloc _, by omega, by omega, by omega⟩
  have HO := Lib.hid h0
  clear h0
  go_enter Try.func42, Try.ntmps42
  go_wp2_with fail
  have h1 := HO.out
  clear HO
  generalize ((w.alloc (.cells #[.bool false, .bool false, .bool false, .int .i64 0] 38)).alloc (.cells #[.int .u64 0, .int .u64 0, .int .u64 0, .int .u64 0] 118)) = w1 at *
  obtain ⟨rb, hrb⟩ : ∃ rb, w.heap.size = rb := ⟨_, rfl⟩
  have HRE := Lib.hid hrb
  rw [hrb] at h1
  simp only [hrb]
  clear hrb
  obtain ⟨pb, hpb⟩ : ∃ pb, rb + 1 = pb := ⟨_, rfl⟩
  rw [hpb] at h1
  simp only [hpb]
  clear hpb
  have HO := Lib.hid h1
  clear h1
  refine (pFields _).mono ?_
  rintro _ w2 ⟨rfl, hk2⟩
  have HO2 := Lib.hid (HO.out.new hk2)
  clear hk2 HO
  go_wp2_with fail
  go_loopg [11] 4 (fun gn s11 wr => ∃ (k : Nat) (p : Nat → Int), s11 = .int .i64 k ∧ k ≤ 4 ∧ gn = 4 - k ∧ OW w wr rb pb p ∧ ∀ q, q < k → p q = (partE e q : Nat))
  case atStart => exact ⟨0, _, rfl, by omega, rfl, HO2.out, fun q h => by omega⟩
  case round =>
    clear HO2
    obtain ⟨k, p, rfl, hk, rfl, hD, hpq⟩ := hrel
    by_cases hlt : k < 4
    · have hk4 : (k : Int) < 4 := by omega
      have hi99 := fun w => idx99 k hlt w
      have hget := fun w => get_yes X HL.out ((frE k : Nat) : Int) ((limE k : Nat) : Int) (okF4 k hlt) w
      simp only [Int.toNat_natCast, getN_eq] at hget
      rw [HC.out k hlt] at hget
      obtain ⟨n, hn⟩ : ∃ n, partE e k = n := ⟨_, rfl⟩
      rw [hn] at hget
      have HN := Lib.hid hn
      have HG := Lib.hid (fun w => (hget w).mono (fun e w' h => (⟨h.1, h.2.symm⟩ : _ ∧ w' = w)))
      generalize frE k = fr at *
      generalize limE k = lm at *
      have HPQ := Lib.hid hpq
      have hA := hD.new ((Keep.refl [] wr).alloc (.cells #[.int .i64 (fr : Int), .int .i64 (lm : Int)] 98))
      have c0 := blk_cell hA.opb hlt
      have f0 := free_of_ob hA.opb k
      have lp := ob_lt hA.opb
      have HA := Lib.hid hA
      clear hget hn hpq hD hA
      go_upto_region 5 with fail
      generalize hw3 : wr.alloc (.cells #[.int .i64 (fr : Int), .int .i64 (lm : Int)] 98) = w3 at *
      have t0 : w3.cell? ⟨wr.heap.size, 0, none⟩ = some (.int .i64 (fr : Int)) := by rw [← hw3, cell_of_ob (al_new wr (.cells #[.int .i64 (fr : Int), .int .i64 (lm : Int)] 98) rfl)]; rfl
      have t1 : w3.cell? ⟨wr.heap.size, 1, none⟩ = some (.int .i64 (lm : Int)) := by rw [← hw3, cell_of_ob (al_new wr (.cells #[.int .i64 (fr : Int), .int .i64 (lm : Int)] 98) rfl)]; rfl
      have t2 : wr.heap.size < w3.heap.size := by rw [← hw3]; simp
      clear hw3
      go_wp2_with fail
      refine (HG.out _).mono ?_
      rintro _ w4 ⟨rfl, hw4⟩
      obtain rfl : w3 = w4 := hw4.symm
      clear t0 t1 t2
      go_wp2_with fail
      go_roundg (4 - (k + 1))
      case measure => omega
      case rel =>
        refine ⟨k + 1, updW p k n, by go_num, by omega, rfl, HA.out.put k n, fun q hq => ?_⟩
        unfold updW
        split
        · rename_i e; rw [e, HN.out]
        · rename_i e; exact HPQ.out q (by omega)
    · obtain rfl : k = 4 := by omega
      have q0 := blk_cell hD.opb (i := 0) (by omega)
      have q1 := blk_cell hD.opb (i := 1) (by omega)
      have q2 := blk_cell hD.opb (i := 2) (by omega)
      have q3 := blk_cell hD.opb (i := 3) (by omega)
      simp only [vU] at q0 q1 q2 q3
      rw [hpq 0 (by omega)] at q0
      rw [hpq 1 (by omega)] at q1
      rw [hpq 2 (by omega)] at q2
      rw [hpq 3 (by omega)] at q3
      have lp := ob_lt hD.opb
      have HD := Lib.hid hD
      clear hD hpq
      obtain ⟨v, ww, t, f⟩ := e
      have hf : f < 256 := HF.out
      simp only [partE] at q0 q1 q2 q3
      clear HF
      have HV : Hid (Keep [] w wr) := Lib.hid HD.out.kp
      have go : ∀ b : Bool, ((b.toNat : Int) == 1) = b := by intro b; cases b <;> rfl
      have gv := go v
      have gw := go ww
      have gt := go t
      clear go
      generalize v.toNat = nv at *
      generalize ww.toNat = nw at *
      generalize t.toNat = nt at *
      go_upto_region 8 with fail
      have hA := HD.out.new ((Keep.refl [] wr).alloc (.cells #[.bool v, .bool ww, .bool t, .int .i64 (f : Int)] 38))
      have HA := Lib.hid hA
      have HCI := Lib.hid (al_new wr (.cells #[.bool v, .bool ww, .bool t, .int .i64 (f : Int)] 38) rfl)
      clear q0 q1 q2 q3 lp HD hA gv gw gt HV
      generalize wr.alloc (.cells #[.bool v, .bool ww, .bool t, .int .i64 (f : Int)] 38) = w5 at *
      generalize wr.heap.size = ci at *
      have s0 := cell_of_ob HCI.out 0
      have s1 := cell_of_ob HCI.out 1
      have s2 := cell_of_ob HCI.out 2
      have s3 := cell_of_ob HCI.out 3
      simp only [List.getElem?_toArray, List.getElem?_cons_zero, List.getElem?_cons_succ] at s0 s1 s2 s3
      go_wp2_with fail
      refine (HW.out w5).mono ?_
      rintro _ w6 ⟨rfl, hk6⟩
      clear s0 s1 s2 s3
      have HA6 := Lib.hid (HA.out.new hk6)
      have hci6 := hk6.kp HCI.out (by simp)
      have r0 := cell_of_ob hci6 0
      have r1 := cell_of_ob hci6 1
      have r2 := cell_of_ob hci6 2
      have r3 := cell_of_ob hci6 3
      simp only [List.getElem?_toArray, List.getElem?_cons_zero, List.getElem?_cons_succ] at r0 r1 r2 r3
      have lc := ob_lt hci6
      clear hci6 hk6 HA HCI
      have hth : w6.there rb 0 4 := there_arr HA6.out.orb
      have hsz : (Try.prog.info? 38).map (·.size) = some (eC ⟨v, ww, t, f⟩).size := size38
      go_wp2_with (refine wpList_store_mid rfl 38 (.tmp 2) (.tmp 53) rfl rb 0 (eC ⟨v, ww, t, f⟩) rfl rfl hth hsz (eC_one _) ?_)
      refine bodyPost_ret (ret_row_tmp (P := Try.prog) Try.results42 (cs := eC ⟨v, ww, t, f⟩) (t := 38) (fr := (0, 0)) (g := rb) (store_arr HA6.out.orb rfl) rfl Try.underlying38 rfl (by rw [size38]; rfl)) rfl ?_
      exact ⟨rfl, HA6.out.kp.setCells (.inr HA6.out.n2) _ _⟩
end Go.Proofs.Ytehmjjfgefopdaa
