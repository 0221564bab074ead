import Derived.Test.YtfljhfggjbkomaaUn
import Derived.Deep.RegionHeld3
namespace Go.Proofs.Ytfljhfggjbkomaa
open Go.RowKit
set_option linter.unusedSimpArgs false
set_option linter.unusedVariables false
attribute [local go_sem] ob_alloc ob_drew ob_drewN ob_setCell ob_setBlock objSet_cells obMap_map obClock_map isMapI_map keyI_mk findI_nil findI_cons lookRes_some lookRes_none lookRes_some' lookRes_none' setBlock_alloc mapPut

def rolI (C : Nat → Int) (O : Nat → OpB) : List Nat → (Nat → Int)
  | [] => C
  | j :: T => unC (rolI C O T) (O j)
def rolE : List Nat → List (Int × Int)
  | [] => []
  | j :: T => rolE T ++ [(2, (j : Int))]
theorem rolE_len : ∀ l, (rolE l).length = l.length
  | [] => rfl
  | j :: T => by simp [rolE, rolE_len T]
def nI (ls : List Nat) : List Int := ls.map fun (j : Nat) => (j : Int)
theorem nI_len (ls : List Nat) : (nI ls).length = ls.length := by simp [nI]
theorem RLw.cellL {W0 w : World} {r : Nat} {opsv : Value} {C : Nat → Int} {ls : List Nat} {E : List (Int × Int)} {bl bs : Option Nat} (h : RLw W0 w r opsv C (nI ls) E bl bs) {i j : Nat} (hi : ls[i]? = some j) :
    ∃ g cap, w.cell? ⟨r, 4, none⟩ = some (.slice (some ⟨g, 0, none⟩) ls.length cap) ∧ ls.length ≤ cap ∧ w.cell? ⟨g, i, none⟩ = some (.int .i64 j) ∧ g < w.heap.size ∧ bl = some g := by
  obtain ⟨Lv, Sv, h1, h2, h3, h4, h5⟩ := h.ex
  obtain ⟨g, cap, e, _, hg, hc, _, hcell⟩ := h2.get (i := i) (a := (j : Int)) (by simp [nI, hi])
  rw [nI_len] at e hc
  subst e
  refine ⟨g, cap, by rw [cell_of_ob h1]; rfl, hc, ?_, hg, h4.symm⟩
  have := hcell 0 _ rfl
  rw [Nat.mul_one, Nat.add_zero] at this
  exact this
set_option maxRecDepth 100000 in
set_option maxHeartbeats 4000000 in
theorem rRoll {W0 w : World} {r : Nat} {C : Nat → Int} {ls : List Nat} {E : List (Int × Int)} {bl bs : Option Nat} {bb off n cap : Nat} (h : RLw W0 w r (.slice (some ⟨bb, off, none⟩) n cap) C (nI ls) E bl bs) (O : Nat → OpB) (hls : ∀ j ∈ ls, j < n) (hn : n ≤ maxLen)
    (hX : ∀ w' j, Keep [] W0 w' → j < n → Arg3 bb off (O j) j w') (hL : ls.length ≤ 1000) (hE : E.length ≤ 90000) :
    Calls Try.prog 22 #[.pointer (some ⟨r, 0, none⟩)] w fun e w' => e = .returned (.int .i64 (ls.length : Nat)) ∧ ∃ bs', RLw W0 w' r (.slice (some ⟨bb, off, none⟩) n cap) (rolI C O ls) [] (E ++ rolE ls) none bs' ∧ Keep (r :: bs.toList) w w' ∧ NewB w bs bs' := by
  unfold maxLen at hn
  obtain ⟨Lv, Sv, h1, h2, h3, h4, h5⟩ := h.ex
  obtain ⟨la, lc, rfl⟩ := h2.slice
  rw [nI_len] at h1
  have r4 := cell_of_ob h1 4
  simp only [rO, List.getElem?_toArray, List.getElem?_cons_zero, List.getElem?_cons_succ] at r4
  obtain ⟨m, hm⟩ : ∃ m, ls.length = m := ⟨_, rfl⟩
  rw [hm] at r4 hL ⊢
  have HH := Lib.hid (And.intro h (And.intro hls (And.intro hX hm)))
  clear h h1 h2 h3 h4 h5 hls hX hm
  go_enter Try.func22, Try.ntmps22
  go_wp2_with fail
  clear r4
  go_loopg [4] m (fun gn i wr => ∃ (j : Nat) (bs' : Option Nat), i = .int .i64 ((j : Int) - 1) ∧ j ≤ m ∧ gn = j ∧ RLw W0 wr r (.slice (some ⟨bb, off, none⟩) n cap) (rolI C O (ls.drop j)) (nI ls) (E ++ rolE (ls.drop j)) bl bs' ∧ Keep (r :: bs.toList) w wr ∧ NewB w bs bs')
  case atStart => exact ⟨m, bs, rfl, by omega, rfl, by rw [List.drop_eq_nil_of_le (by have := HH.out.2.2.2; omega)]; simp only [rolI, rolE, List.append_nil]; exact HH.out.1, Keep.refl _ _, .inl rfl⟩
  case round =>
    obtain ⟨j, bs', rfl, hjm, hgj, hR, hk, hnb⟩ := hrel
    obtain rfl : j = gk := hgj.symm
    cases j with
    | zero =>
      obtain ⟨Lv, Sv, h1, h2, h3, h4, h5⟩ := hR.ex
      have r4 := cell_of_ob h1 4
      have f4 := free_of_ob h1 4
      simp only [rO, List.getElem?_toArray, List.getElem?_cons_zero, List.getElem?_cons_succ] at r4
      have hkS : Keep [r] wr (wr.setCell ⟨r, 4, none⟩ (.slice none 0 0)) := (Keep.refl _ _).setCell (.inl (by simp)) 4 _
      have hF : RLw W0 (wr.setCell ⟨r, 4, none⟩ (.slice none 0 0)) r (.slice (some ⟨bb, off, none⟩) n cap) (rolI C O ls) [] (E ++ rolE ls) none bs' :=
        ⟨⟨_, Sv, (st_same h1).trans rfl, RowE.nil _ _, h3.keep hkS (fun b hb => by simp; exact (hR.ds b (h5 ▸ hb)).1), rfl, h5⟩, fun b hb => (by cases hb), fun b hb => ⟨(hR.ds b hb).1, fun e => (by cases e)⟩, hR.kp.andThen hkS (by intro y hy; simp at hy; subst hy; exact .inr hR.r0), hR.r0⟩
      have HF := Lib.hid (And.intro hF (And.intro (hk.trans (hkS.mono (T := r :: bs.toList) (by intro y hy; simp at hy; subst hy; exact .head _))) hnb))
      clear hR hk hnb h1 h2 h3 h4 h5 hkS hF
      go_wp2_with fail
      go_ret
      exact ⟨rfl, bs', HF.out.1, HF.out.2.1, HF.out.2.2⟩
    | succ j =>
      obtain ⟨q, hq⟩ : ∃ q, ls[j]? = some q := ⟨_, List.getElem?_eq_getElem (by have := HH.out.2.2.2; omega)⟩
      have hqn := HH.out.2.1 q (List.mem_of_getElem? hq)
      obtain ⟨g, lc, r4, hlc, lj, hg, hbl⟩ := hR.cellL hq
      rw [HH.out.2.2.2] at r4 hlc
      obtain ⟨l0, l1, l2⟩ := HH.out.2.2.1 wr q hR.kp hqn
      obtain ⟨⟨c, a, f⟩, ho⟩ : ∃ o, O q = o := ⟨_, rfl⟩
      rw [ho] at l0 l1 l2
      simp only at l0 l1 l2
      obtain ⟨Lv, Sv, h1, h2, h3, h4, h5⟩ := hR.ex
      have r6 := cell_of_ob h1 6
      have hrl := ob_lt h1
      simp only [rO, List.getElem?_toArray, List.getElem?_cons_zero, List.getElem?_cons_succ] at r6
      have hj1 : ((j + 1 : Nat) : Int) - 1 = (j : Int) := by omega
      have hj0 : (0 : Int) ≤ (j : Int) := by omega
      have hj2 : (j : Int) < (m : Int) := by omega
      have hq0 : (0 : Int) ≤ (q : Int) := by omega
      have hq2 : (q : Int) < (n : Int) := by omega
      have HK := Lib.hid (And.intro hR (And.intro hk (And.intro hnb (And.intro ho hq))))
      clear hR hk hnb ho h1 h2 h3 h4 h5 hq
      go_wp2_with fail
      go_cut [5] from 13 to 64 (fun s5 wx => ∃ xo, s5 = .pointer (some ⟨xo, 0, none⟩) ∧ wr.heap.size ≤ xo ∧ ob wx xo = some (.cells #[.int .i64 c, .int .i64 a, .int .i64 f] 36 (0, 0)) ∧ Keep [] wr wx)
      case first =>
        go_region_held3 (fun w' => w'.cell? ⟨r, 6, none⟩ = some (.slice (some ⟨bb, off, none⟩) n cap) ∧ w'.cell? ⟨r, 4, none⟩ = some (.slice (some ⟨g, 0, none⟩) m lc) ∧ w'.cell? ⟨g, j, none⟩ = some (.int .i64 q) ∧ w'.cell? ⟨bb, off + q * 3, none⟩ = some (.int .i64 c) ∧ w'.cell? ⟨bb, off + q * 3 + 1, none⟩ = some (.int .i64 a) ∧ w'.cell? ⟨bb, off + q * 3 + 2, none⟩ = some (.int .i64 f)) (go_keep) (fail)
        all_goals
          go_wp2_with fail
          go_meet
          exact ⟨_, rfl, Nat.le_refl _, al_new _ _ rfl, by repeat (first | exact Keep.refl _ _ | refine Keep.drew ?_ | refine Keep.drewN ?_ _ | refine Keep.setCell ?_ (by first | (left; simp; done) | (right; simp; done) | (right; omega) | (right; simp; omega)) _ _ | refine Keep.setBlock ?_ (by first | (left; simp; done) | (right; simp; done) | (right; omega) | (right; simp; omega)) _ | refine Keep.alloc ?_ _ | refine Keep.andThen ?_ (by assumption) (by first | (simp; done) | (simp; omega) | (intro x hx; simp at hx; simp; omega)))⟩
      case rest =>
        obtain ⟨xo, rfl, hxl, hxo, hkx⟩ := hcut
        clear r4 lj l0 l1 l2 r6
        have hR := HK.out.1.new hkx
        have hq' := opQ_lt ⟨c, a, f⟩
        have hqa := opQ_and ⟨c, a, f⟩
        simp only at hqa
        have e0 := cell_of_ob hxo 0
        have e1 := cell_of_ob hxo 1
        simp only [List.getElem?_toArray, List.getElem?_cons_zero, List.getElem?_cons_succ] at e0 e1
        obtain ⟨Lv2, Sv2, h12, -⟩ := hR.ex
        have cq := ro_cell h12 hq'
        have fq := free_of_ob h12 (opQ ⟨c, a, f⟩)
        have hP := hR.put hq' (wrap64 (rolI C O (ls.drop (j + 1)) (opQ ⟨c, a, f⟩) - a))
        have hkP : Keep [r] wc (wc.setCell ⟨r, opQ ⟨c, a, f⟩, none⟩ (.int .i64 (wrap64 (rolI C O (ls.drop (j + 1)) (opQ ⟨c, a, f⟩) - a)))) := (Keep.refl _ _).setCell (.inl (by simp)) _ _
        have HC : Hid (unC (rolI C O (ls.drop (j + 1))) ⟨c, a, f⟩ = updC (rolI C O (ls.drop (j + 1))) (opQ ⟨c, a, f⟩) (wrap64 (rolI C O (ls.drop (j + 1)) (opQ ⟨c, a, f⟩) - a))) := Lib.hid rfl
        have HP := Lib.hid (And.intro hP (hkx.mono (T := [r]) (by simp) |>.trans hkP))
        have hq4 : ((opQ ⟨c, a, f⟩ : Nat) : Int) < 4 := by omega
        have hqq0 : (0 : Int) ≤ ((opQ ⟨c, a, f⟩ : Nat) : Int) := by omega
        generalize opQ ⟨c, a, f⟩ = p at *
        generalize hCq : rolI C O (ls.drop (j + 1)) p = x at *
        have HX := Lib.hid hCq
        clear hCq hR h12 hP hkP hkx hxo
        go_upto_region 6 with fail
        go_still_tail 18, (by kernel_rfl)
        go_upto_region 7 with fail
        have hP := HP.out.1.new (Keep.refl _ _).drew
        have hkP := HP.out.2.drew
        generalize (wc.setCell ⟨r, p, none⟩ (.int .i64 (wrap64 (x - a)))).drew = w3 at *
        clear HP e0 e1 cq fq hqa
        obtain ⟨g', lc', r4, hlc', lj, hg', hbl'⟩ := hP.cellL HK.out.2.2.2.2
        rw [HH.out.2.2.2] at r4 hlc'
        obtain rfl : g = g' := by rw [hbl] at hbl'; simpa using hbl'
        have hP2 := hP.new (Keep.refl _ _).drew
        obtain ⟨va, vc, va', vc', w1, bs1, g1, g2, g3, gk, gb, g4, ⟨g5, g6⟩, g7⟩ := hP2.seen (2, (q : Int)) (by
          have := HH.out.2.2.2
          rw [List.length_append, rolE_len, List.length_drop]; omega)
        have r5 : w3.cell? ⟨r, 5, none⟩ = some (.slice va (E ++ rolE (ls.drop (j + 1))).length vc) := g1
        have happ : (Builtin.append_ #[28, 28] 28 #[.slice va (E ++ rolE (ls.drop (j + 1))).length vc, .slice (some ⟨w3.heap.size, 0, none⟩) 1 1]).run Try.prog (w3.alloc (.cells #[.int .i64 2, .int .i64 q] 112)).drew = .ok (.slice va' ((E ++ rolE (ls.drop (j + 1))).length + 1) vc') w1 := g2 28
        have HG := Lib.hid (And.intro g3 (And.intro gk (And.intro gb hkP)))
        have hrl3 : r < w3.heap.size := g7
        generalize (E ++ rolE (ls.drop (j + 1))).length = LE at *
        clear hP hkP hP2 g1 g2 g3 gk gb g7 hbl'
        have HD : Hid (rolI C O (ls.drop j) = unC (rolI C O (ls.drop (j + 1))) ⟨c, a, f⟩ ∧ E ++ rolE (ls.drop j) = E ++ rolE (ls.drop (j + 1)) ++ [(2, (q : Int))]) := Lib.hid (by
          have hd : ls.drop j = q :: ls.drop (j + 1) := by
            obtain ⟨t1, t2⟩ := List.getElem?_eq_some_iff.1 HK.out.2.2.2.2
            rw [← t2]; exact List.drop_eq_getElem_cons t1
          rw [hd]
          exact ⟨by show unC _ (O q) = _; rw [HK.out.2.2.2.1], by simp [rolE]⟩)
        go_region_law (first | refine step_append_eq rfl _ _ _ rfl rfl rfl happ ?_)
        all_goals
          go_wp2_with fail
          go_roundg j
          case measure => omega
          case rel =>
            refine ⟨j, bs1, rfl, by omega, rfl, ?_, ?_, ?_⟩
            · rw [HD.out.1, HD.out.2, HC.out]; exact HG.out.1
            · refine (HK.out.2.1.andThen ((HG.out.2.2.2.mono (T := r :: bs'.toList) (by intro y hy; simp at hy; subst hy; exact .head _)).trans ((Keep.refl _ _).drew.trans HG.out.2.1)) ?_)
              intro y hy
              rcases List.mem_cons.1 hy with rfl | hy
              · exact .inl (.head _)
              · simp only [Option.mem_toList] at hy
                rcases HK.out.2.2.1 with e | e | ⟨b, e, hb⟩
                · exact .inl (List.mem_cons_of_mem _ (by simp only [Option.mem_toList]; rw [← e]; exact hy))
                · rw [e] at hy; cases hy
                · rw [e] at hy; simp at hy; subst hy; exact .inr hb
            · rcases HG.out.2.2.1 with e | ⟨b, e, hb⟩
              · rw [e]; exact HK.out.2.2.1
              · refine .inr (.inr ⟨b, e, ?_⟩)
                have h1 := HK.out.2.1.size
                have h2 := HG.out.2.2.2.size
                have h3 : w3.drew.heap.size = w3.heap.size := rfl
                omega
end Go.Proofs.Ytfljhfggjbkomaa
