import Derived.Test.YtajlpicdkdeceaaIc
import Derived.Deep.RegionHeld3
import Derived.RegionDies
import Derived.Deep.RegionLaw
import Derived.Deep.DrawnRows
namespace Go.Proofs.Ytajlpicdkdeceaa
open Go.RowKit
set_option linter.unusedSimpArgs false
set_option linter.unusedVariables false
attribute [local go_sem] ob_alloc ob_drew ob_drewN ob_setCell ob_setBlock objSet_cells obMap_map obClock_map isMapI_map keyI_mk findI_nil findI_cons lookRes_some lookRes_none lookRes_some' lookRes_none' setBlock_alloc mapPut
attribute [local go_sem ↓] Go.wp_at_zero Go.wp_at_succ

def u64E : Enc Int 1 := ⟨fun i => [.int .u64 i], fun _ => rfl, fun i u hu => by simp at hu; subst hu; rfl⟩
theorem u64E_flat (L : List Int) : u64E.flat L = L.map (Value.int .u64) := by
  induction L with
  | nil => rfl
  | cons a L ih =>
    simp only [Enc.flat, List.flatMap_cons, List.map_cons] at ih ⊢
    rw [ih]; rfl
theorem info43 : (Try.prog.info? 43).map (fun i => (i.zero, i.size, i.bytes)) = some (some (.int .u64 0), 1, 8) := by kernel_rfl
def PartPost (rb B : Nat) (w : World) : Option (PB × List Int) → Ending → World → Prop
  | some (p, r), e, w' => ∃ sa sc, e = .returned (.agg #[.int .i64 p.pg, .bool p.wr, .slice sa p.ws.length sc]) ∧ RDR w' rb B r ∧ RowE u64E 43 w' w.heap.size (.slice sa p.ws.length sc) p.ws ∧ Keep [rb] w w'
  | none, e, w' => e = .panicked [formP] ∧ Keep [rb] w w'
/-- a part in work -/
structure PW (w0 w : World) (rb B pb rc : Nat) (r : List Int) (pg : Int) (wr : Bool) (ws : List Int) (wsv : Value) : Prop where
  rd : RDR w rb B r
  ob : ob w pb = some (.cells #[.int .i64 pg, .bool wr, wsv] 42 (0, 0))
  row : RowE u64E 43 w w0.heap.size wsv ws
  sep : ∀ b, wsv.ownBlock = some b → b ≠ pb ∧ b ≠ rc
  res : Ytajlpicdkdeceaa.ob w rc = some (.cells #[.int .i64 0, .bool false, .slice none 0 0] 42 (0, 0))
  kp : Keep [rb] w0 w
  n1 : w0.heap.size ≤ rc
  n2 : w0.heap.size ≤ pb
  n3 : pb ≠ rc
  n4 : rb < w0.heap.size
  n5 : B ≤ rb
section
variable {w0 w w' : World} {rb B pb rc : Nat} {r r' : List Int} {pg x : Int} {wr : Bool} {ws : List Int} {wsv : Value} {k : Nat}
theorem PW.new (h : PW w0 w rb B pb rc r pg wr ws wsv) (hk : Keep [] w w') : PW w0 w' rb B pb rc r pg wr ws wsv :=
  ⟨h.rd.keep hk (by simp) (by simp), hk.kp h.ob (by simp), h.row.keep hk (by simp), h.sep, hk.kp h.res (by simp), h.kp.trans (hk.mono (by simp)), h.n1, h.n2, h.n3, h.n4, h.n5⟩
theorem PW.took (h : PW w0 w rb B pb rc r pg wr ws wsv) (hR : RDR w' rb B r') (hk : Keep [rb] w w') : PW w0 w' rb B pb rc r' pg wr ws wsv := by
  have hn1 := h.n1
  have hn2 := h.n2
  have hn4 := h.n4
  exact ⟨hR, hk.kp h.ob (by simp; omega), h.row.keep hk (fun b hb => by have := ownBlock_ge h.row hb; simp; omega), h.sep, hk.kp h.res (by simp; omega), h.kp.trans hk, h.n1, h.n2, h.n3, h.n4, h.n5⟩
theorem PW.takeR (h : PW w0 w rb B pb rc r pg wr ws wsv) (hb : ∀ c ∈ r, okB c) (hk1 : 1 ≤ k) (hk8 : k ≤ 8) (ht : takeN k r = some (x, r')) :
    Calls Try.prog 19 #[.pointer (some ⟨rb, 0, none⟩), .int .i64 k] w fun e w' => e = .returned (.int .u64 x) ∧ PW w0 w' rb B pb rc r' pg wr ws wsv := by
  refine (Ytajlpicdkdeceaa.takeR h.rd hb hk1 hk8 ht).mono ?_
  rintro e w' ⟨h1, h2, h3⟩
  exact ⟨h1, h.took h2 h3⟩
theorem PW.takeX (h : PW w0 w rb B pb rc r pg wr ws wsv) (hk8 : k ≤ 8) (ht : takeN k r = none) :
    Calls Try.prog 19 #[.pointer (some ⟨rb, 0, none⟩), .int .i64 k] w fun e w' => e = .panicked [formP] ∧ w' = w := Ytajlpicdkdeceaa.takeX h.rd hk8 ht
theorem PW.setWr (h : PW w0 w rb B pb rc r pg wr ws wsv) (b : Bool) : PW w0 (w.setCell ⟨pb, 1, none⟩ (.bool b)) rb B pb rc r pg b ws wsv := by
  have hk : Keep [pb] w (w.setCell ⟨pb, 1, none⟩ (.bool b)) := (Keep.refl _ _).setCell (.inl (by simp)) 1 _
  have hn2 := h.n2
  have hn4 := h.n4
  have hn5 := h.n5
  exact ⟨h.rd.keep hk (by simp; omega) (by simp; omega), (st_same h.ob).trans rfl, h.row.keep hk (fun c hc => by have := (h.sep c hc).1; simp; exact this), h.sep, hk.kp h.res (by simp; exact fun e => h.n3 e.symm), h.kp.andThen hk (by intro y hy; simp at hy; subst hy; exact .inr h.n2), h.n1, h.n2, h.n3, h.n4, h.n5⟩
theorem PW.begin {w2 : World} (hR : RDR w2 rb B r) (hk : Keep [rb] w0 w2) (hz : Ytajlpicdkdeceaa.ob w2 rc = some (.cells #[.int .i64 0, .bool false, .slice none 0 0] 42 (0, 0))) (h1 : w0.heap.size ≤ rc) (h4 : rb < w0.heap.size) (h5 : B ≤ rb) (pg : Int) :
    PW w0 (w2.alloc (.cells #[.int .i64 pg, .bool false, .slice none 0 0] 42)) rb B w2.heap.size rc r pg false [] (.slice none 0 0) := by
  have hA : Keep [] w2 (w2.alloc (.cells #[.int .i64 pg, .bool false, .slice none 0 0] 42)) := (Keep.refl _ _).alloc _
  exact ⟨hR.keep hA (by simp) (by simp), al_new w2 (.cells #[.int .i64 pg, .bool false, .slice none 0 0] 42) rfl, RowE.nil _ _, by simp [Value.ownBlock], hA.kp hz (by simp), hk.trans (hA.mono (by simp)), h1, hk.size, by have := ob_lt hz; omega, h4, h5⟩
theorem PW.push (h : PW w0 w rb B pb rc r pg wr ws wsv) (x : Int) (hl : ws.length ≤ 300) :
    ∃ va vc w2, (∀ ty, (Builtin.append_ #[40, 40] ty #[wsv, .slice (some ⟨w.heap.size, 0, none⟩) 1 1]).run Try.prog (w.alloc (.cells #[.int .u64 x] 43)) = .ok (.slice va (ws.length + 1) vc) w2) ∧
      PW w0 (w2.setCell ⟨pb, 2, none⟩ (.slice va (ws.length + 1) vc)) rb B pb rc r pg wr (ws ++ [x]) (.slice va (ws.length + 1) vc) ∧ w2.frozen? ⟨pb, 2, none⟩ = false ∧ w2.cell? ⟨pb, 2, none⟩ = some wsv ∧ pb < w2.heap.size := by
  have kA : Keep [] w (w.alloc (.cells #[.int .u64 x] 43)) := (Keep.refl _ _).alloc _
  have hsz := h.kp.size
  obtain ⟨va, vc, w2, g1, g2, g3, g4⟩ := (h.row.keep kA (by simp)).push (P := Try.prog) Try.underlying40 info43 rfl (by omega) x (al_new w (.cells #[.int .u64 x] 43) rfl) 1 (by omega) (by omega) (by simp; omega)
  have hge := fun b hb => ownBlock_ge h.row (b := b) hb
  have k2 : Keep wsv.ownBlock.toList w w2 := (kA.mono (by simp)).trans g3
  have hn4 := h.n4
  have hn5 := h.n5
  have hn2 := h.n2
  have o2 := k2.kp h.ob (fun hm => by simp only [Option.mem_toList] at hm; exact (h.sep _ hm).1 rfl)
  have z2 := k2.kp h.res (fun hm => by simp only [Option.mem_toList] at hm; exact (h.sep _ hm).2 rfl)
  have hsep : ∀ b, (Value.slice va (ws.length + 1) vc).ownBlock = some b → b ≠ pb ∧ b ≠ rc := fun b hb => by
    rcases g4 with g4 | g4
    · exact h.sep b (g4 ▸ hb)
    · rw [g4] at hb
      simp at hb
      have := ob_lt h.ob
      have := ob_lt h.res
      omega
  have hk : Keep [pb] w2 (w2.setCell ⟨pb, 2, none⟩ (.slice va (ws.length + 1) vc)) := (Keep.refl _ _).setCell (.inl (by simp)) 2 _
  have kF : Keep [rb] w0 w2 := h.kp.andThen k2 (fun b hb => by simp only [Option.mem_toList] at hb; exact .inr (hge b hb))
  refine ⟨va, vc, w2, g1, ⟨?_, (st_same o2).trans rfl, g2.keep hk (fun b hb => by have := (hsep b hb).1; simp; exact this), hsep, hk.kp z2 (by simp; exact fun e => h.n3 e.symm), kF.andThen hk (by intro y hy; simp at hy; subst hy; exact .inr h.n2), h.n1, h.n2, h.n3, h.n4, h.n5⟩, free_of_ob o2 2, by rw [cell_of_ob o2]; rfl, ob_lt o2⟩
  have hR2 := h.rd.keep k2 (fun hm => by simp only [Option.mem_toList] at hm; have := hge _ hm; omega) (fun b hb => by simp only [Option.mem_toList] at hb; have := hge b hb; omega)
  exact hR2.keep hk (by simp; omega) (by simp; omega)
theorem PW.cells (h : PW w0 w rb B pb rc r pg wr ws wsv) : w.cell? ⟨pb, 0, none⟩ = some (.int .i64 pg) ∧ w.cell? ⟨pb, 1, none⟩ = some (.bool wr) ∧ w.cell? ⟨pb, 2, none⟩ = some wsv ∧ w.frozen? ⟨pb, 1, none⟩ = false ∧ pb < w.heap.size :=
  ⟨by rw [cell_of_ob h.ob]; rfl, by rw [cell_of_ob h.ob]; rfl, by rw [cell_of_ob h.ob]; rfl, free_of_ob h.ob 1, ob_lt h.ob⟩
theorem PW.fin {sa : Option Addr} {m sc : Nat} (h : PW w0 w rb B pb rc r pg wr ws (.slice sa m sc)) : RDR (((w.setCell ⟨rc, 0, none⟩ (.int .i64 pg)).setCell ⟨rc, 1, none⟩ (.bool wr)).setCell ⟨rc, 2, none⟩ (.slice sa m sc)) rb B r ∧
    RowE u64E 43 (((w.setCell ⟨rc, 0, none⟩ (.int .i64 pg)).setCell ⟨rc, 1, none⟩ (.bool wr)).setCell ⟨rc, 2, none⟩ (.slice sa m sc)) w0.heap.size (.slice sa m sc) ws ∧ Keep [rb] w0 (((w.setCell ⟨rc, 0, none⟩ (.int .i64 pg)).setCell ⟨rc, 1, none⟩ (.bool wr)).setCell ⟨rc, 2, none⟩ (.slice sa m sc)) ∧
    Ytajlpicdkdeceaa.ob (((w.setCell ⟨rc, 0, none⟩ (.int .i64 pg)).setCell ⟨rc, 1, none⟩ (.bool wr)).setCell ⟨rc, 2, none⟩ (.slice sa m sc)) rc = some (.cells #[.int .i64 pg, .bool wr, .slice sa m sc] 42 (0, 0)) := by
  have hk : Keep [rc] w (((w.setCell ⟨rc, 0, none⟩ (.int .i64 pg)).setCell ⟨rc, 1, none⟩ (.bool wr)).setCell ⟨rc, 2, none⟩ (.slice sa m sc)) := (((Keep.refl _ _).setCell (.inl (by simp)) 0 _).setCell (.inl (by simp)) 1 _).setCell (.inl (by simp)) 2 _
  have hn1 := h.n1
  have hn4 := h.n4
  have hn5 := h.n5
  refine ⟨h.rd.keep hk (by simp; omega) (by simp; omega), h.row.keep hk (fun b hb => by have := (h.sep b hb).2; simp; exact this), h.kp.andThen hk (by intro y hy; simp at hy; subst hy; exact .inr h.n1), ?_⟩
  exact (st_same ((st_same ((st_same h.res).trans rfl)).trans rfl)).trans rfl
theorem PW.zc (h : PW w0 w rb B pb rc r pg wr ws wsv) : w.frozen? ⟨rc, 0, none⟩ = false ∧ w.frozen? ⟨rc, 1, none⟩ = false ∧ w.frozen? ⟨rc, 2, none⟩ = false ∧ w.cell? ⟨rc, 0, none⟩ = some (.int .i64 0) ∧ w.cell? ⟨rc, 1, none⟩ = some (.bool false) ∧ w.cell? ⟨rc, 2, none⟩ = some (.slice none 0 0) ∧ rc < w.heap.size :=
  ⟨free_of_ob h.res 0, free_of_ob h.res 1, free_of_ob h.res 2, by rw [cell_of_ob h.res]; rfl, by rw [cell_of_ob h.res]; rfl, by rw [cell_of_ob h.res]; rfl, ob_lt h.res⟩
end
set_option maxRecDepth 100000 in
set_option maxHeartbeats 4000000 in
theorem pPart (w : World) (rb B : Nat) (bs : List Int) (h : RDR w rb B bs) (hb : ∀ c ∈ bs, okB c) (hB : B ≤ rb) (hrb : rb < w.heap.size) :
    Calls Try.prog 20 #[.pointer (some ⟨rb, 0, none⟩)] w (PartPost rb B w (decP bs)) := by
  have hA := h.keep ((Keep.refl [] w).alloc (.cells #[.int .i64 0, .bool false, .slice none 0 0] 42)) (by simp) (by simp)
  have kA : Keep [rb] w (w.alloc (.cells #[.int .i64 0, .bool false, .slice none 0 0] 42)) := (Keep.refl _ w).alloc _
  have oA := al_new w (.cells #[.int .i64 0, .bool false, .slice none 0 0] 42) rfl
  have HA := Lib.hid (And.intro hA (And.intro kA oA))
  clear hA kA oA h
  go_enter Try.func20, Try.ntmps20
  go_wp2_with fail
  obtain ⟨hA, kA, oA⟩ := HA.out
  clear HA
  generalize w.alloc (.cells #[.int .i64 0, .bool false, .slice none 0 0] 42) = w1 at *
  obtain ⟨rc, hrc⟩ : ∃ rc, w.heap.size = rc := ⟨_, rfl⟩
  have HRC := Lib.hid hrc
  rw [hrc] at oA hrb
  simp only [hrc]
  clear hrc
  cases h1 : takeN 2 bs with
  | none =>
    have HD : Hid (decP bs = none) := Lib.hid (by simp [decP, h1])
    have HK := Lib.hid kA
    have hc := takeX hA (by omega) h1
    clear hA kA h1 oA
    refine hc.mono ?_
    rintro _ w2 ⟨rfl, hw2⟩
    obtain rfl : w1 = w2 := hw2.symm
    go_wp2_with fail
    simp only [bodyPost]
    rw [HD.out]
    exact ⟨by trivial, rfl, HK.out⟩
  | some x1 =>
    obtain ⟨pg, r1⟩ := x1
    obtain ⟨ba, bb, rfl, rfl⟩ := takeN2_some h1
    have hc := takeR hA hb (by omega) (by omega) h1
    have ha := hb ba (by simp)
    have hb2 := hb bb (by simp)
    unfold okB at ha hb2
    generalize hpg : ba * 256 + bb = pg at *
    have hpg1 : 0 ≤ pg ∧ pg < 65536 := by omega
    have HK := Lib.hid (And.intro kA oA)
    clear hA kA oA ha hb2 hpg
    refine hc.mono ?_
    rintro _ w2 ⟨rfl, hR, hk⟩
    clear hc
    have HR := Lib.hid (And.intro hR (And.intro (HK.out.1.trans hk) (hk.kp HK.out.2 (by simp; omega))))
    have hP := PW.begin hR (HK.out.1.trans hk) (hk.kp HK.out.2 (by simp; omega)) (by have := HRC.out; omega) (by have := HRC.out; omega) hB pg
    have HP := Lib.hid hP
    have hb1 : ∀ c ∈ r1, okB c := fun c hc => hb c (by simp [hc])
    clear hR hk HK HR hP hb
    go_wp2_with fail
    have hP := HP.out
    clear HP
    generalize w2.alloc (.cells #[.int .i64 pg, .bool false, .slice none 0 0] 42) = w3 at *
    generalize w2.heap.size = pb at *
    cases h2 : takeN 1 r1 with
    | none =>
      have HD : Hid (decP (ba :: bb :: r1) = none) := Lib.hid (by simp [decP, h1, h2])
      have HK := Lib.hid hP.kp
      have hc := hP.takeX (k := 1) (by omega) h2
      clear hP h1 h2 hb1
      refine hc.mono ?_
      rintro _ w4 ⟨rfl, hw4⟩
      obtain rfl : w3 = w4 := hw4.symm
      go_wp2_with fail
      simp only [bodyPost]
      rw [HD.out]
      exact ⟨by trivial, rfl, HK.out⟩
    | some x2 =>
      obtain ⟨wv, r2⟩ := x2
      obtain rfl := takeN1_some h2
      have hc := hP.takeR (k := 1) hb1 (by omega) (by omega) h2
      have hwv := hb1 wv (by simp)
      have hb2 : ∀ c ∈ r2, okB c := fun c hc => hb1 c (by simp [hc])
      unfold okB at hwv
      clear hP hb1
      refine hc.mono ?_
      rintro _ w4 ⟨rfl, hP⟩
      have HP := Lib.hid hP
      clear hc hP
      by_cases hlt2 : wv < 2
      · go_wp2_with fail
        refine (must_ok _).mono ?_
        rintro _ w5 ⟨rfl, hw5⟩
        obtain rfl : w4 = w5 := hw5.symm
        obtain ⟨c0, c1, c2, f1, lp⟩ := HP.out.cells
        have HP5 := Lib.hid (HP.out.setWr (decide (wv = 1)))
        have e1 : (wv == 1) = decide (wv = 1) := rfl
        clear HP
        go_wp2_with fail
        have hP := HP5.out
        clear HP5 e1 c0 c1 c2 f1 lp
        generalize w4.setCell ⟨pb, 1, none⟩ (.bool (decide (wv = 1))) = w6 at *
        generalize hwb : decide (wv = 1) = wb at *
        have HWB := Lib.hid hwb
        clear hwb
        cases h3 : takeN 1 r2 with
        | none =>
          have HD : Hid (decP (ba :: bb :: wv :: r2) = none) := Lib.hid (by simp [decP, h1, h2, hlt2, h3])
          have HK := Lib.hid hP.kp
          have hc := hP.takeX (k := 1) (by omega) h3
          clear hP h1 h2 hb2 h3
          refine hc.mono ?_
          rintro _ w7 ⟨rfl, hw7⟩
          obtain rfl : w6 = w7 := hw7.symm
          go_wp2_with fail
          simp only [bodyPost]
          rw [HD.out]
          exact ⟨by trivial, rfl, HK.out⟩
        | some x3 =>
          obtain ⟨cv, r3⟩ := x3
          obtain rfl := takeN1_some h3
          have hc := hP.takeR (k := 1) hb2 (by omega) (by omega) h3
          have hcv := hb2 cv (by simp)
          have hb3 : ∀ c ∈ r3, okB c := fun c hc => hb2 c (by simp [hc])
          unfold okB at hcv
          have HD : Hid (decP (ba :: bb :: wv :: cv :: r3) = (decWs cv.toNat r3).map fun (ws, r4) => (⟨pg, wb, ws⟩, r4)) := Lib.hid (by simp [decP, h1, h2, hlt2, h3, HWB.out])
          clear hP hb2 h1 h2 h3 HWB hpg1 hlt2 hwv
          refine hc.mono ?_
          rintro _ w7 ⟨rfl, hP⟩
          have HP := Lib.hid (And.intro hP hb3)
          clear hc hP hb3
          obtain ⟨cn, rfl⟩ := Int.eq_ofNat_of_zero_le hcv.1
          rw [Int.toNat_natCast] at HD
          have hcn : cn ≤ 255 := by omega
          clear hcv
          go_wp2_with fail
          go_loopg [20] cn (fun gn s20 wr => ∃ (j : Nat) (rj ws : List Int) (wsv : Value), s20 = .int .i64 j ∧ j ≤ cn ∧ gn = cn - j ∧ ws.length = j ∧ PW w wr rb B pb rc rj pg wb ws wsv ∧ (∀ c ∈ rj, okB c) ∧ decWs cn r3 = (decWs (cn - j) rj).map fun (t, r4) => (ws ++ t, r4))
          case atStart => exact ⟨0, r3, [], _, rfl, by omega, by omega, rfl, HP.out.1, HP.out.2, by cases decWs (cn - 0) r3 <;> simp⟩
          case round =>
            clear HP
            obtain ⟨j, rj, ws, wsv, rfl, hj, rfl, hwl, hP, hbj, hdj⟩ := hrel
            by_cases hjl : j < cn
            · cases h4 : takeN 8 rj with
              | none =>
                have hdn : decWs cn r3 = none := by
                  rw [hdj, show cn - j = (cn - j - 1) + 1 by omega, decWs, h4]; rfl
                have HD2 : Hid (decP (ba :: bb :: wv :: (cn : Int) :: r3) = none) := Lib.hid (by rw [HD.out, hdn]; rfl)
                obtain ⟨c0, c1, c2, f1, lp⟩ := hP.cells
                have HC := Lib.hid ((hP.new (Keep.refl _ _).drew).takeX (k := 8) (by omega) h4)
                have HK := Lib.hid ((hP.new (Keep.refl _ _).drew).kp)
                have HPR := Lib.hid hP.row
                clear hdj hdn HD hP hbj h4
                obtain ⟨sa, sc, rfl⟩ := HPR.out.slice
                rw [hwl] at c2
                have hjl' : (j : Int) < cn := by omega
                go_wp2_with fail
                go_region_dies
                all_goals
                  refine HC.out.mono ?_
                  rintro _ w9 ⟨rfl, hw9⟩
                  obtain rfl : w9 = wr.drew := hw9
                  go_wp2_with fail
                  simp only [bodyPost]
                  rw [HD2.out]
                  exact ⟨by trivial, rfl, HK.out⟩
              | some x4 =>
                obtain ⟨x, r4⟩ := x4
                have hdn : decWs cn r3 = (decWs (cn - (j + 1)) r4).map fun (t, r5) => ((ws ++ [x]) ++ t, r5) := by
                  rw [hdj, show cn - j = (cn - (j + 1)) + 1 by omega, decWs, h4]
                  simp only [Option.bind_some]
                  cases h5 : decWs (cn - (j + 1)) r4 <;> simp
                have hb4 : ∀ c ∈ r4, okB c := fun c hc => by
                  obtain ⟨_, _, rfl⟩ := takeN_some h4
                  exact hbj c (List.mem_of_mem_drop hc)
                obtain ⟨c0, c1, c2, f1, lp⟩ := hP.cells
                have HC : Hid (Calls Try.prog 19 #[.pointer (some ⟨rb, 0, none⟩), .int .i64 8] wr.drew fun e w' => e = .returned (.int .u64 x) ∧ w'.cell? ⟨pb, 2, none⟩ = some wsv ∧ pb < w'.heap.size ∧
                    ∃ va vc w2, (∀ ty, (Builtin.append_ #[40, 40] ty #[wsv, .slice (some ⟨w'.heap.size, 0, none⟩) 1 1]).run Try.prog (w'.alloc (.cells #[.int .u64 x] 43)) = .ok (.slice va (j + 1) vc) w2) ∧
                      PW w (w2.setCell ⟨pb, 2, none⟩ (.slice va (j + 1) vc)) rb B pb rc r4 pg wb (ws ++ [x]) (.slice va (j + 1) vc) ∧ w2.frozen? ⟨pb, 2, none⟩ = false ∧ w2.cell? ⟨pb, 2, none⟩ = some wsv ∧ pb < w2.heap.size) :=
                  Lib.hid (((hP.new (Keep.refl _ _).drew).takeR (k := 8) hbj (by omega) (by omega) h4).mono (fun e w' ⟨h1, h2⟩ => ⟨h1, h2.cells.2.2.1, h2.cells.2.2.2.2, by have := h2.push x (by omega); rw [hwl] at this; exact this⟩))
                have HDN := Lib.hid (And.intro hdn (And.intro hb4 hwl))
                obtain ⟨sa, sc, rfl⟩ := hP.row.slice
                rw [hwl] at c2 HC
                clear hdj hdn hP hbj h4 hb4 hwl
                have hjl' : (j : Int) < cn := by omega
                go_wp2_with fail
                go_region_law (first
                    | (refine step_append_eq rfl _ _ _ rfl rfl rfl (happ _) ?_)
                    | (go_simp; go_at_call 19; refine HC.out.mono ?_; rintro _ w9 ⟨rfl, m2, l9, va, vc, w10, happ, hP, fz, hy, lq⟩))
                all_goals
                  have HP := Lib.hid hP
                  clear hP happ m2 hy fz lq c0 c1 c2 f1 lp HC
                  go_wp2_with fail
                  go_roundg (cn - (j + 1))
                  case measure => omega
                  case rel => exact ⟨j + 1, r4, ws ++ [x], _, by go_num, by omega, rfl, by rw [List.length_append, HDN.out.2.2]; rfl, HP.out, HDN.out.2.1, HDN.out.1⟩
            · obtain rfl : j = cn := by omega
              rw [Nat.sub_self, decWs] at hdj
              have hdj2 : decWs j r3 = some (ws, rj) := by rw [hdj]; simp
              have HD2 : Hid (decP (ba :: bb :: wv :: (j : Int) :: r3) = some (⟨pg, wb, ws⟩, rj)) := Lib.hid (by rw [HD.out, hdj2]; rfl)
              obtain ⟨c0, c1, c2, f1, lp⟩ := hP.cells
              obtain ⟨sa, sc, rfl⟩ := hP.row.slice
              have HP := Lib.hid hP
              clear hdj hdj2 HD hP hbj
              obtain ⟨z0, z1, z2, y0, y1, y2, lz⟩ := HP.out.zc
              have HFN := HP.out.fin
              rw [hwl] at c2 HFN
              have HF := Lib.hid HFN
              clear HFN
              go_wp2_with fail
              obtain ⟨q1, q2, q3, q4⟩ := HF.out
              generalize ((wr.setCell ⟨rc, 0, none⟩ (.int .i64 pg)).setCell ⟨rc, 1, none⟩ (.bool wb)).setCell ⟨rc, 2, none⟩ (.slice sa j sc) = w9 at *
              have r0 : w9.cell? ⟨rc, 0, none⟩ = some (.int .i64 pg) := by rw [cell_of_ob q4]; rfl
              have r1 : w9.cell? ⟨rc, 1, none⟩ = some (.bool wb) := by rw [cell_of_ob q4]; rfl
              have r2 : w9.cell? ⟨rc, 2, none⟩ = some (.slice sa j sc) := by rw [cell_of_ob q4]; rfl
              have hrun : ∀ tmps : Array Value, tmps[2]?.getD undef = .pointer (some ⟨rc, 0, none⟩) → (results Try.f20 tmps).run Try.prog w9 = .ok (.agg #[.int .i64 pg, .bool wb, .slice sa j sc]) w9 := by
                intro tmps ht
                clear HF q1 q2 q3 q4 c0 c1 c2 f1 lp z0 z1 z2 y0 y1 y2 lz HP
                simp [results, Try.f20, ht]
                go_simp
              refine ⟨by trivial, _, hrun _ rfl, ?_⟩
              rw [HD2.out]
              exact ⟨sa, sc, by simp only [hwl], q1, by simp only [hwl]; exact q2, q3⟩
      · have HD : Hid (decP (ba :: bb :: wv :: r2) = none) := Lib.hid (by simp [decP, h1, h2, hlt2])
        have HK := Lib.hid HP.out.kp
        have hlt3 : 2 ≤ wv := by omega
        have d1 : decide (wv < 2) = false := by simpa using hlt3
        clear HP h1 h2 hb2 hlt2
        go_wp2_with fail
        refine (must_no _).mono ?_
        rintro _ w5 ⟨rfl, hw5⟩
        obtain rfl : w4 = w5 := hw5.symm
        go_wp2_with fail
        simp only [bodyPost]
        rw [HD.out]
        exact ⟨by trivial, rfl, HK.out⟩
end Go.Proofs.Ytajlpicdkdeceaa
