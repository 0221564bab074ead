import Derived.Test.YtajlpicdkdeceaaIb
import Derived.Laws.BitsAllLaws
import Derived.Deep.CutRange
namespace Go.Proofs.Ytajlpicdkdeceaa
open Go.RowKit
set_option linter.unusedSimpArgs false
set_option linter.unusedVariables false
attribute [local go_sem] ob_alloc ob_drew ob_drewN ob_setCell ob_setBlock objSet_cells obMap_map obClock_map isMapI_map keyI_mk findI_nil findI_cons lookRes_some lookRes_none lookRes_some' lookRes_none' setBlock_alloc mapPut

theorem must_ok (w : World) : Calls Try.prog 21 #[.bool true] w fun e w' => e = .returned (.tuple #[]) ∧ w' = w := by
  go_enter Try.func21, Try.ntmps21
  go_wp2_with fail
  go_end0
  exact ⟨rfl, rfl⟩
def formP : PanicEntry := { v := .iface 26 (.int .i64 11), recovered := false }
theorem must_no (w : World) : Calls Try.prog 21 #[.bool false] w fun e w' => e = .panicked [formP] ∧ w' = w := by
  go_enter Try.func21, Try.ntmps21
  go_wp2_with fail
  simp [bodyPost, formP]
/-! ### the reader -/
def RDR (w : World) (rb B : Nat) (bs : List Int) : Prop := ∃ sv, ob w rb = some (.cells #[sv] 50 (0, 0)) ∧ RdI w .u8 sv bs ∧ ∀ b, sv.ownBlock = some b → 0 < bs.length → b < B
theorem RDR.keep {S : List Nat} {w w' : World} {rb B : Nat} {bs : List Int} (h : RDR w rb B bs) (hk : Keep S w w') (hr : rb ∉ S) (hS : ∀ b, b ∈ S → B ≤ b) : RDR w' rb B bs := by
  obtain ⟨sv, h1, h2, h3⟩ := h
  exact ⟨sv, hk.kp h1 hr, ⟨h2.1.keep hk (fun b hb h0 hm => by rw [List.length_map] at h0; have := h3 b hb h0; have := hS b hm; omega), h2.2⟩, h3⟩
theorem val_snoc (l : List Int) (c : Int) : val (l ++ [c]) = val l * 256 + c := by simp [val, List.foldl_append]
theorem val_bd : ∀ (l : List Int), (∀ c ∈ l, okB c) → 0 ≤ val l ∧ val l + 1 ≤ 256 ^ l.length := by
  intro l
  induction hn : l.length generalizing l with
  | zero =>
    intro _
    have := List.eq_nil_of_length_eq_zero hn
    subst this
    exact ⟨by decide, by decide⟩
  | succ n ih =>
    intro h
    rcases List.eq_nil_or_concat l with rfl | ⟨q, x, rfl⟩
    · simp at hn
    · rw [List.concat_eq_append] at hn h ⊢
      have hq := ih q (by simp at hn; exact hn) (fun c hc => h c (List.mem_append_left _ hc))
      have hx := h x (by simp)
      unfold okB at hx
      rw [val_snoc, Int.pow_succ]
      omega
theorem or_byte (n c : Int) (h0 : 0 ≤ n) (h1 : n * 256 ≤ 18446744073709551360) (hc : okB c) : bits .or .u64 (n * 256) c = n * 256 + c := by
  unfold okB at hc
  rw [u64_or _ _ (by omega) (by omega) (by omega) (by omega), nat_join 8 _ _ (by omega) (by omega)]
  omega
theorem RDR.len {w : World} {rb B : Nat} {bs : List Int} (h : RDR w rb B bs) : ∃ a cap, ob w rb = some (.cells #[.slice a bs.length cap] 50 (0, 0)) ∧ RdI w .u8 (.slice a bs.length cap) bs ∧ bs.length ≤ cap ∧ cap ≤ maxLen ∧ ∀ ad, a = some ad → 0 < bs.length → ad.block < B := by
  obtain ⟨sv, h1, h2, hB⟩ := h
  obtain ⟨a, cap, h3, h4, h5⟩ := h2.1.len
  rw [List.length_map] at h3 h4
  subst h3
  exact ⟨a, cap, h1, h2, h4, h5, fun ad e => hB _ (by rw [e]; rfl)⟩
theorem RDR.next {w : World} {rb B ab ao cap j : Nat} {bs : List Int} (h1 : ob w rb = some (.cells #[.slice (some ⟨ab, ao, none⟩) bs.length cap] 50 (0, 0))) (h2 : RdI w .u8 (.slice (some ⟨ab, ao, none⟩) bs.length cap) bs) (hj : j ≤ bs.length) (hl : bs.length ≤ cap) (hm : cap ≤ maxLen) (hB : ab < B)
    (ao' cap' : Nat) (hc : (ao' = ao + j ∧ cap' = cap - j) ∨ (j = bs.length ∧ cap' = 0)) : RDR (w.setCell ⟨rb, 0, none⟩ (.slice (some ⟨ab, ao', none⟩) (bs.length - j) cap')) rb B (bs.drop j) := by
  refine ⟨_, by rw [ob_setCell, if_pos rfl, h1]; rfl, ⟨.inr ⟨_, cap', by rw [List.length_map, List.length_drop], by rw [List.length_map, List.length_drop]; omega, by omega, fun i x hx => ?_⟩, fun x hx => h2.2 x (List.mem_of_mem_drop hx)⟩, fun b hb _ => by simp [Value.ownBlock] at hb; omega⟩
  rw [List.getElem?_map, List.getElem?_drop] at hx
  obtain ⟨y, hy, rfl⟩ := Option.map_eq_some_iff.1 hx
  have hlt := (List.getElem?_eq_some_iff.1 hy).1
  rcases hc with ⟨rfl, rfl⟩ | ⟨e, _⟩
  · obtain ⟨b', o', cap2, e2, _, _, hX⟩ := h2.1.pos (by rw [List.length_map]; omega)
    simp only [Value.slice.injEq, Option.some.injEq, Addr.mk.injEq, and_true, List.length_map, true_and] at e2
    obtain ⟨⟨rfl, rfl⟩, rfl⟩ := e2
    have hc := hX (j + i) _ (by rw [List.getElem?_map, hy]; rfl)
    have hne : ab ≠ rb := by
      intro e
      subst e
      rw [cell_of_ob h1] at hc
      cases hk : ao + (j + i) with
      | zero => rw [hk] at hc; simp at hc
      | succ q => rw [hk] at hc; simp at hc
    rw [add_mk, cell_ob, ob_setCell, if_neg hne, ← cell_ob]
    rw [show ao + j + i = ao + (j + i) by omega]
    exact hc
  · omega
set_option maxRecDepth 100000 in
set_option maxHeartbeats 2000000 in
theorem take_no (w : World) (rb B : Nat) (bs : List Int) (h : RDR w rb B bs) (k : Nat) (hk : bs.length < k) (hk8 : k ≤ 8) :
    Calls Try.prog 19 #[.pointer (some ⟨rb, 0, none⟩), .int .i64 k] w fun e w' => e = .panicked [formP] ∧ w' = w := by
  obtain ⟨a, cap, h1, h2, h3, h4, hB⟩ := h.len
  have c0 := cell_of_ob h1 0
  have hl := ob_lt h1
  simp only [List.getElem?_toArray, List.getElem?_cons_zero] at c0
  generalize bs.length = n at *
  have d1 : decide ((k : Int) ≤ (n : Int)) = false := by simp; omega
  have d2 : decide (k ≤ n) = false := by simp; omega
  clear h h1 h2
  go_enter Try.func19, Try.ntmps19
  go_wp2_with fail
  refine (must_no _).mono ?_
  rintro _ w2 ⟨rfl, hw2⟩
  obtain rfl : w = w2 := hw2.symm
  go_wp2_with fail
  simp [bodyPost]
set_option maxRecDepth 100000 in
set_option maxHeartbeats 2000000 in
theorem take_ok (w : World) (rb B : Nat) (bs : List Int) (h : RDR w rb B bs) (hb : ∀ c ∈ bs, okB c) (k : Nat) (hk1 : 1 ≤ k) (hk : k ≤ bs.length) (hk8 : k ≤ 8) :
    Calls Try.prog 19 #[.pointer (some ⟨rb, 0, none⟩), .int .i64 k] w fun e w' => e = .returned (.int .u64 (val (bs.take k))) ∧ RDR w' rb B (bs.drop k) ∧ Keep [rb] w w' := by
  obtain ⟨a, cap, h1, h2, h3, h4, hB⟩ := h.len
  obtain ⟨ab, ao, cap', hveq, _, _, hX⟩ := h2.1.pos (by rw [List.length_map]; omega)
  rw [List.length_map] at hveq
  simp only [Value.slice.injEq, true_and] at hveq
  obtain ⟨rfl, rfl⟩ := hveq
  have HB := Lib.hid (hB _ rfl (by omega))
  clear hB
  have c0 := cell_of_ob h1 0
  have f0 := free_of_ob h1 0
  have hl := ob_lt h1
  simp only [List.getElem?_toArray, List.getElem?_cons_zero] at c0
  unfold maxLen at h4
  have HX : Hid (∀ i x, bs[i]? = some x → w.cell? ⟨ab, ao + i, none⟩ = some (.int .u8 x)) := Lib.hid (fun i x hx => hX i _ (by rw [List.getElem?_map, hx]; rfl))
  have HH := Lib.hid (And.intro h1 (And.intro h2 hb))
  clear h h1 h2 hb hX
  obtain ⟨n, hn⟩ : ∃ n, bs.length = n := ⟨_, rfl⟩
  have HN := Lib.hid hn
  rw [hn] at c0 h3 hk
  clear hn
  have d1 : decide ((k : Int) ≤ (n : Int)) = true := by simp; omega
  go_enter Try.func19, Try.ntmps19
  go_wp2_with fail
  refine (must_ok _).mono ?_
  rintro _ w2 ⟨rfl, hw2⟩
  obtain rfl : w = w2 := hw2.symm
  go_wp2_with fail
  clear d1
  go_loopg [5, 23] k (fun gn s5 s23 wr => wr = w ∧ ∃ j : Nat, s23 = .int .i64 j ∧ j ≤ k ∧ gn = k - j ∧ s5 = .int .u64 (val (bs.take j)))
  case atStart => exact ⟨rfl, 0, rfl, by omega, rfl, rfl⟩
  case round =>
    obtain ⟨rfl, j, rfl, hj, rfl, rfl⟩ := hrel
    by_cases hjk : j < k
    · have hx : bs[j]? = some (bs[j]'(by have := HN.out; omega)) := List.getElem?_eq_getElem _
      generalize (bs[j]'(by have := HN.out; omega)) = x at hx
      have hc := HX.out j x hx
      have hxb := HH.out.2.2 x (List.mem_of_getElem? hx)
      have hv := val_bd (bs.take j) (fun c hc => HH.out.2.2 c (List.mem_of_mem_take hc))
      have hs : bs.take (j + 1) = bs.take j ++ [x] := by rw [List.take_add_one, hx]; rfl
      have hp : (256 : Int) ^ (bs.take j).length ≤ 72057594037927936 := by
        have h7 : (bs.take j).length ≤ 7 := by rw [List.length_take]; omega
        have key : ∀ q : Fin 8, (256 : Int) ^ q.val ≤ 72057594037927936 := by decide
        exact key ⟨_, by omega⟩
      have hV : val (bs.take (j + 1)) = val (bs.take j) * 256 + x := by rw [hs, val_snoc]
      have hor := or_byte (val (bs.take j)) x hv.1 (by omega) hxb
      unfold okB at hxb
      have hw : IntKind.u64.wrap (val (bs.take j) * 256) = val (bs.take j) * 256 := by
        unfold IntKind.wrap; simp [IntKind.bits, IntKind.signed]; omega
      have HV := Lib.hid hV
      have hv1 := hv.1
      have hv2 : val (bs.take j) ≤ 72057594037927935 := by omega
      clear hV hs hp hv hx
      generalize val (bs.take j) = n0 at *
      go_wp2_with fail
      go_roundg (k - (j + 1))
      case measure => omega
      case rel => exact ⟨rfl, j + 1, by go_num, by omega, rfl, by rw [HV.out]⟩
    · obtain rfl : j = k := by omega
      go_upto_region 8 with fail
      go_wp2_with fail
      · have hR := RDR.next (j := j) HH.out.1 HH.out.2.1 (by have := HN.out; omega) (by have := HN.out; omega) (by unfold maxLen; omega) HB.out ao 0 (.inr ⟨by have := HN.out; omega, rfl⟩)
        rw [HN.out] at hR
        have HR := Lib.hid hR
        clear hR
        go_ret
        exact ⟨rfl, HR.out, (Keep.refl _ _).setCell (.inl (by simp)) 0 _⟩
      · have hR := RDR.next (j := j) HH.out.1 HH.out.2.1 (by have := HN.out; omega) (by have := HN.out; omega) (by unfold maxLen; omega) HB.out (ao + j) (cap - j) (.inl ⟨rfl, rfl⟩)
        rw [HN.out] at hR
        have HR := Lib.hid hR
        clear hR
        go_ret
        exact ⟨rfl, HR.out, (Keep.refl _ _).setCell (.inl (by simp)) 0 _⟩
theorem takeR {w : World} {rb B : Nat} {bs r : List Int} {k : Nat} {x : Int} (h : RDR w rb B bs) (hb : ∀ c ∈ bs, okB c) (hk1 : 1 ≤ k) (hk8 : k ≤ 8) (ht : takeN k bs = some (x, r)) :
    Calls Try.prog 19 #[.pointer (some ⟨rb, 0, none⟩), .int .i64 k] w fun e w' => e = .returned (.int .u64 x) ∧ RDR w' rb B r ∧ Keep [rb] w w' := by
  obtain ⟨h1, rfl, rfl⟩ := takeN_some ht
  exact take_ok w rb B bs h hb k hk1 h1 hk8
theorem takeX {w : World} {rb B : Nat} {bs : List Int} {k : Nat} (h : RDR w rb B bs) (hk8 : k ≤ 8) (ht : takeN k bs = none) :
    Calls Try.prog 19 #[.pointer (some ⟨rb, 0, none⟩), .int .i64 k] w fun e w' => e = .panicked [formP] ∧ w' = w := by
  refine take_no w rb B bs h k ?_ hk8
  unfold takeN at ht
  split at ht
  · cases ht
  · omega
end Go.Proofs.Ytajlpicdkdeceaa
