import Derived.Test.YtjiienoflgolpaaQd
import Derived.Test.YtjiienoflgolpaaLibO
namespace Go.Proofs.Ytjiienoflgolpaa
open Go.RowKit
set_option linter.unusedSimpArgs false
set_option linter.unusedVariables false
open Go.Conc
attribute [local go_sem] ob_alloc ob_drew ob_drewN ob_setCell ob_setBlock objSet_cells obMap_map obClock_map isMapI_map keyI_mk findI_nil findI_cons lookRes_some lookRes_none lookRes_some' lookRes_none' setBlock_alloc mapPut

def nt (x : Nat) : Int := bits BinOp.xor IntKind.u64 IntKind.u64.max (x : Int)
def Waits (w : World) (c : Nat) (f : Nat → Int) (T : Nat) (vs : List Value) : Prop := ∀ i v, vs[i]? = some v → ∃ B, c < B ∧ w.ownsRow B 44 1 v 2 (u64s [((T + i : Nat) : Int), f (T + i)])
section
variable {w w' : World} {c T : Nat} {f : Nat → Int} {vs : List Value}
theorem Waits.keep {S : List Nat} (h : Waits w c f T vs) (hk : Keep S w w') (hS : ∀ x, x ∈ S → x ≤ c ∨ w.heap.size ≤ x) : Waits w' c f T vs := by
  intro i v hv
  obtain ⟨B, hB, ho⟩ := h i v hv
  exact ⟨B, hB, owns_keep ho hk (fun b hb hm => by have h1 := ownBlock_ge ho hb; have h3 := ownBlock_lt ho hb; rcases hS b hm with h2 | h2 <;> omega)⟩
theorem Waits.push (h : Waits w c f T vs) {v : Value} {S B : Nat} (hS : T + vs.length = S) (hB : c < B) (ho : w.ownsRow B 44 1 v 2 (u64s [(S : Int), f S])) : Waits w c f T (vs ++ [v]) := by
  intro i u hu
  by_cases hi : i < vs.length
  · rw [List.getElem?_append_left hi] at hu; exact h i u hu
  · rw [List.getElem?_append_right (by omega)] at hu
    obtain ⟨rfl, e⟩ : u = v ∧ i = vs.length := by
      cases hk : i - vs.length with
      | zero => rw [hk] at hu; simp at hu; exact ⟨hu.symm, by omega⟩
      | succ n => rw [hk] at hu; simp at hu
    rw [e, hS]
    exact ⟨B, hB, ho⟩
theorem Waits.tail {v : Value} (h : Waits w c f T (v :: vs)) : Waits w c f (T + 1) vs := by
  intro i u hu
  obtain ⟨B, hB, ho⟩ := h (i + 1) u (by simpa using hu)
  refine ⟨B, hB, ?_⟩
  rw [show T + 1 + i = T + (i + 1) by omega]
  exact ho
theorem Waits.head {v : Value} (h : Waits w c f T (v :: vs)) : ∃ B, c < B ∧ w.ownsRow B 44 1 v 2 (u64s [(T : Int), f T]) := h 0 v rfl
end
set_option maxRecDepth 100000 in
set_option maxHeartbeats 4000000 in
theorem order18 (W0 : World) (many : Int) (v0 : Value) (xs : List (List Value)) (hv : RdA W0 1 v0 xs) (hx : ∀ c ∈ xs, GCells W0 [.bool] c) :
    Calls Try.prog 4 #[.int .i64 many, v0] W0 fun e w' => e = .returned (.bool true) ∧ Keep [] W0 w' := by
  obtain ⟨a0, cap0, rfl, hc1, hc2⟩ := hv.len
  unfold maxLen at hc2
  by_cases hok : 1 ≤ many ∧ many ≤ 16
  · obtain ⟨h1, h2⟩ := hok
    obtain ⟨m, rfl⟩ := Int.eq_ofNat_of_zero_le (show 0 ≤ many by omega)
    go_enter Try.func4, Try.ntmps4
    go_wp2_with fail
    refine (awake18 W0).mono ?_
    rintro _ w1 ⟨rfl, hk1⟩
    go_wp2_with fail
    refine (qNewPO W0 w1 hk1 m 2 (by omega) (by omega) (by omega) (by omega)).mono ?_
    rintro _ w2 ⟨p, c, rfl, hP2⟩
    generalize hn : xs.length = n at *
    clear hk1
    by_cases h120 : n ≤ 120
    · have HP2 := Lib.hid hP2
      clear hP2
      go_wp2_with fail
      go_loopg [8, 9, 10, 11] n (fun gn s t q i wr => ∃ (k S T L : Nat) (vs : List Value), i = .int .i64 k ∧ k ≤ n ∧ gn = n - k ∧ s = .int .u64 S ∧ t = .int .u64 T ∧ q = .int .i64 L ∧ vs.length = L ∧ T + L = S ∧ S ≤ k ∧ L ≤ m ∧ PO W0 wr p c m 2 vs ∧ Waits wr c nt T vs)
      case atStart => exact ⟨0, 0, 0, 0, [], rfl, by omega, by omega, rfl, rfl, rfl, rfl, rfl, by omega, by omega, HP2.out, by intro i v hv; simp at hv⟩
      case round =>
        clear HP2
        obtain ⟨k, S, T, L, vs, rfl, hkn, rfl, rfl, rfl, rfl, hvs, hST, hSk, hvm, hP, hW⟩ := hrel
        by_cases hlt : k < n
        · obtain ⟨bb, off, cap', hveq, hbl, hcells⟩ := (hv.keep hP.kp (by simp)).2 (by omega)
          simp only [Value.slice.injEq, hn, true_and] at hveq
          obtain ⟨rfl, rfl⟩ := hveq
          have hxk : xs[k]? = some (xs[k]'(by rw [hn]; exact hlt)) := List.getElem?_eq_getElem _
          obtain ⟨hc3, hrange⟩ := hcells k _ hxk
          obtain ⟨_, _, hxe, ⟨d, rfl⟩, rfl⟩ := hx _ (List.getElem_mem (by rw [hn]; exact hlt))
          rw [hxe] at hrange
          have l0 := hrange 0 _ rfl
          rw [Nat.mul_one, Nat.add_zero] at l0
          clear hv hx hcells hxk hrange hc3 hxe hn
          have HP := Lib.hid (And.intro hP (And.intro hW hvs))
          have hkk : (k : Int) + 1 ≤ 121 := by omega
          clear hP hW hc1 hc2
          cases d with
          | true =>
            cases L with
            | zero =>
              have hvn : vs = [] := List.eq_nil_of_length_eq_zero hvs
              subst hvn
              clear hvs
              go_wp2_with fail
              refine (qTake_no wr p c m 2 HP.out.1.pb).mono ?_
              rintro _ w3 ⟨rfl, rfl⟩
              go_wp2_with fail
              refine (qLen wr p c m 2 _ HP.out.1.pb).mono ?_
              rintro _ w5 ⟨rfl, hk5⟩
              have H5 := Lib.hid (And.intro (HP.out.1.new hk5) (HP.out.2.1.keep hk5 (by simp)))
              clear hk5 HP
              go_wp2
              go_roundg (n - (k + 1))
              case measure => omega
              case rel => exact ⟨k + 1, S, T, 0, [], by go_num, by omega, rfl, rfl, rfl, rfl, rfl, hST, by omega, by omega, H5.out.1, H5.out.2⟩
            | succ L =>
              obtain ⟨u, rest, rfl⟩ : ∃ v0 rest, vs = v0 :: rest := by
                cases vs with
                | nil => simp at hvs
                | cons a b => exact ⟨a, b, rfl⟩
              obtain ⟨B, hB, ho⟩ := HP.out.2.1.head
              have HO := Lib.hid (And.intro hB ho)
              have HV : Hid (rest.length = L) := Lib.hid (by simpa using hvs)
              clear hB ho hvs
              go_wp2_with fail
              refine (qTake_yes _ p c m 2 u rest HP.out.1.pb).mono ?_
              rintro _ w3 ⟨rfl, hP3, hk3⟩
              have hP4 := HP.out.1.byC hP3 hk3
              have ho4 := owns_keep HO.out.2 hk3 (fun b hb hm => by have h1 := ownBlock_ge HO.out.2 hb; have := HO.out.1; simp at hm; omega)
              obtain ⟨g, cap, rfl, hg1, hg2, hg3, hg4⟩ := owns_pos ho4 (by omega)
              have c0 := (hg4 0 _ rfl).1
              have c1 := (hg4 1 _ rfl).1
              unfold nt at c1
              have H4 := Lib.hid (And.intro hP4 (HP.out.2.1.tail.keep hk3 (by simp)))
              have hq : (bits BinOp.xor IntKind.u64 IntKind.u64.max (T : Int) != bits BinOp.xor IntKind.u64 (if IntKind.u64.signed = true then -1 else IntKind.u64.max) (T : Int)) = false := by rw [if_neg (by decide)]; simp
              clear hP3 hk3 hP4 ho4 hg4 HP HO hg1 hg2
              go_wp2_with fail
              refine (qLen w3 p c m 2 _ H4.out.1.pb).mono ?_
              rintro _ w5 ⟨rfl, hk5⟩
              rw [HV.out]
              have H5 := Lib.hid (And.intro (H4.out.1.new hk5) (H4.out.2.keep hk5 (by simp)))
              clear hk5 H4 c0 c1
              go_wp2
              go_roundg (n - (k + 1))
              case measure => omega
              case rel => exact ⟨k + 1, S, T + 1, L, rest, by go_num, by omega, rfl, rfl, by go_num, by go_num, HV.out, by omega, by omega, by omega, H5.out.1, H5.out.2⟩
          | false =>
            by_cases hLm : L < m
            · go_wp2_with fail
              have e0 := al_new wr (.cells #[.int .u64 S, .int .u64 (bits BinOp.xor IntKind.u64 IntKind.u64.max (S : Int))] 44) rfl
              refine (qSend_ok _ p c m 2 vs (HP.out.1.alloc (.cells #[.int .u64 S, .int .u64 (bits BinOp.xor IntKind.u64 IntKind.u64.max (S : Int))] 44)).pb _ 2 2 [(S : Int), nt S] (rd_two wr _ _) (by omega) (by omega) (by omega) (by rw [HP.out.2.2]; exact hLm)).mono ?_
              rintro _ w3 ⟨rfl, v', hP3, ho3, hk3⟩
              have hcl := HP.out.1.pb.lt
              have e3 := hk3.kp e0 (by simp; omega)
              have hkA : Keep [c] wr w3 := ((Keep.refl [c] wr).alloc (.cells #[.int .u64 S, .int .u64 (bits BinOp.xor IntKind.u64 IntKind.u64.max (S : Int))] 44)).trans hk3
              have hkB : Keep [wr.heap.size] w3 (w3.setCell ⟨wr.heap.size, 0, none⟩ (.int .u64 99)) := (Keep.refl _ w3).setCell (.inl (by simp)) 0 _
              have hkF : Keep [c] wr (w3.setCell ⟨wr.heap.size, 0, none⟩ (.int .u64 99)) := hkA.andThen hkB (by intro x hx; simp at hx; right; omega)
              have hPF : PO W0 (w3.setCell ⟨wr.heap.size, 0, none⟩ (.int .u64 99)) p c m 2 (vs ++ [v']) := HP.out.1.byC (hP3.keep hkB (by simp; omega) (by simp; omega)) hkF
              have hoF := owns_keep ho3 hkB (fun b hb hm => by have h1 := ownBlock_ge ho3 hb; simp at h1 hm; omega)
              have hWF := (HP.out.2.1.keep hkF (by simp)).push (S := S) (by rw [HP.out.2.2]; exact hST) (by simp; omega) hoF
              have HF := Lib.hid (And.intro hPF (And.intro hWF (show (vs ++ [v']).length = L + 1 by rw [List.length_append, HP.out.2.2]; rfl)))
              have c0 := cell_of_ob e3 0
              have f0 := free_of_ob e3 0
              simp only [List.getElem?_toArray, List.getElem?_cons_zero] at c0
              clear e0 e3 hP3 ho3 hk3 hcl hkA hkB hkF hPF hoF hWF HP hvs
              generalize wr.heap.size = g at *
              go_wp2_with fail
              generalize w3.setCell ⟨g, 0, none⟩ (.int .u64 99) = w4 at *
              refine (qLen w4 p c m 2 _ HF.out.1.pb).mono ?_
              rintro _ w5 ⟨rfl, hk5⟩
              rw [HF.out.2.2]
              have H5 := Lib.hid (And.intro (HF.out.1.new hk5) (And.intro (HF.out.2.1.keep hk5 (by simp)) HF.out.2.2))
              clear hk5 HF c0 f0
              go_wp2
              go_roundg (n - (k + 1))
              case measure => omega
              case rel => exact ⟨k + 1, S + 1, T, L + 1, vs ++ [v'], by go_num, by omega, rfl, by go_num, rfl, by go_num, H5.out.2.2, by omega, by omega, by omega, H5.out.1, H5.out.2.1⟩
            · obtain rfl : L = m := by omega
              go_wp2_with fail
              have e0 := al_new wr (.cells #[.int .u64 S, .int .u64 (bits BinOp.xor IntKind.u64 IntKind.u64.max (S : Int))] 44) rfl
              refine (qSend_full _ p c L 2 vs (HP.out.1.alloc (.cells #[.int .u64 S, .int .u64 (bits BinOp.xor IntKind.u64 IntKind.u64.max (S : Int))] 44)).pb _ 2 2 [(S : Int), nt S] (rd_two wr _ _) (by omega) (by omega) (by omega) HP.out.2.2).mono ?_
              rintro _ w3 ⟨rfl, hP3, hk3⟩
              have e3 := hk3.kp e0 (by simp)
              have hkA : Keep [] wr w3 := ((Keep.refl [] wr).alloc (.cells #[.int .u64 S, .int .u64 (bits BinOp.xor IntKind.u64 IntKind.u64.max (S : Int))] 44)).trans hk3
              have hkF : Keep [] wr (w3.setCell ⟨wr.heap.size, 0, none⟩ (.int .u64 99)) := hkA.setCell (.inr (Nat.le_refl _)) 0 _
              have HF := Lib.hid (And.intro (HP.out.1.new hkF) (And.intro (HP.out.2.1.keep hkF (by simp)) HP.out.2.2))
              have c0 := cell_of_ob e3 0
              have f0 := free_of_ob e3 0
              simp only [List.getElem?_toArray, List.getElem?_cons_zero] at c0
              clear e0 e3 hP3 hk3 hkA hkF HP hvs
              generalize wr.heap.size = g at *
              go_wp2_with fail
              generalize w3.setCell ⟨g, 0, none⟩ (.int .u64 99) = w4 at *
              refine (qLen w4 p c L 2 _ HF.out.1.pb).mono ?_
              rintro _ w5 ⟨rfl, hk5⟩
              rw [HF.out.2.2]
              have H5 := Lib.hid (And.intro (HF.out.1.new hk5) (And.intro (HF.out.2.1.keep hk5 (by simp)) HF.out.2.2))
              clear hk5 HF c0 f0
              go_wp2
              go_roundg (n - (k + 1))
              case measure => omega
              case rel => exact ⟨k + 1, S, T, L, vs, by go_num, by omega, rfl, rfl, rfl, rfl, H5.out.2.2, by omega, by omega, by omega, H5.out.1, H5.out.2.1⟩
        · obtain rfl : k = n := by omega
          have HP := Lib.hid hP
          have HV := Lib.hid hvs
          clear hP hW hv hx hvs
          go_wp2_with fail
          refine (qDrain wr p c m 2 _ HP.out.pb (by rw [HV.out]; omega)).mono ?_
          rintro _ w3 ⟨rfl, hP3, hk3⟩
          rw [HV.out]
          have H3 := Lib.hid (HP.out.byC hP3 hk3)
          clear hP3 hk3 HP
          go_wp2_with fail
          refine (qLen w3 p c m 2 _ H3.out.pb).mono ?_
          rintro _ w4 ⟨rfl, hk4⟩
          have H4 := Lib.hid (H3.out.new hk4)
          clear hk4 H3
          go_wp2_with fail
          refine (qDrain w4 p c m 2 _ H4.out.pb (by simp)).mono ?_
          rintro _ w5 ⟨rfl, hP5, hk5⟩
          have H5 := Lib.hid (H4.out.byC hP5 hk5).kp
          clear hP5 hk5 H4
          go_wp2
          go_ret
          exact ⟨rfl, H5.out⟩
    · have hE := hP2.kp
      clear hP2 hv hx
      go_wp2
      go_ret
      exact ⟨rfl, hE⟩
  · have hno : many < 1 ∨ 16 < many ∨ (2 : Int) < 1 ∨ (16 : Int) < 2 := by omega
    clear hok
    go_enter Try.func4, Try.ntmps4
    go_wp2_with fail
    refine (awake18 W0).mono ?_
    rintro _ w1 ⟨rfl, hk1⟩
    go_wp2_with fail
    refine (qNew_no w1 many 2 hno).mono ?_
    rintro _ w2 ⟨rfl, hk2⟩
    have hk := hk1.trans hk2
    clear hno hk1 hk2 hv hx
    go_wp2
    go_ret
    exact ⟨rfl, hk⟩
end Go.Proofs.Ytjiienoflgolpaa
