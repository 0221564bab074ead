import Derived.Test.YtfihnnijcaapkaaTc
namespace Go.Proofs.Ytfihnnijcaapkaa
open Go.RowKit
set_option linter.unusedSimpArgs false
set_option linter.unusedVariables false
attribute [local go_sem] ob_alloc ob_drew ob_drewN ob_setCell ob_setBlock objSet_cells obMap_map obClock_map isMapI_map keyI_mk findI_nil findI_cons lookRes_some lookRes_none lookRes_some' lookRes_none' setBlock_alloc mapPut

/-! ### Drop, Flush, Clear, Lines -/
set_option maxRecDepth 100000 in
set_option maxHeartbeats 400000 in
theorem tEqA (a : Int) (l : Ln) (A : Nat) (w : World) (hA : ob w A = some (.cells #[.int .i64 a] 3 (0, 0))) :
    Calls Try.prog 43 #[.agg #[.int .i64 l.a, .int .i64 l.p, .int .i64 l.f, .bool l.w], .pointer (some ⟨A, 0, none⟩)] w fun e w' => e = .returned (.bool (l.a == a)) ∧ Keep [] w w' := by
  have cA := cell_of_ob hA 0
  have lA := ob_lt hA
  simp only [List.getElem?_toArray, List.getElem?_cons_zero] at cA
  have hk : Keep [] w (w.alloc (.cells #[.int .i64 l.a, .int .i64 l.p, .int .i64 l.f, .bool l.w] 29)) := (Keep.refl _ _).alloc _
  clear hA
  obtain ⟨la, lp, lf, lw⟩ := l
  simp only at hk ⊢
  go_enter Try.func43, Try.ntmps43
  go_wp2
  go_ret
  exact ⟨rfl, hk⟩
set_option maxRecDepth 100000 in
set_option maxHeartbeats 400000 in
theorem tEqAP (a p : Int) (l : Ln) (A B : Nat) (w : World) (hA : ob w A = some (.cells #[.int .i64 a] 3 (0, 0))) (hB : ob w B = some (.cells #[.int .i64 p] 3 (0, 0))) :
    Calls Try.prog 45 #[.agg #[.int .i64 l.a, .int .i64 l.p, .int .i64 l.f, .bool l.w], .pointer (some ⟨A, 0, none⟩), .pointer (some ⟨B, 0, none⟩)] w fun e w' => e = .returned (.bool (l.a == a && l.p == p)) ∧ Keep [] w w' := by
  have cA := cell_of_ob hA 0
  have lA := ob_lt hA
  have cB := cell_of_ob hB 0
  have lB := ob_lt hB
  simp only [List.getElem?_toArray, List.getElem?_cons_zero] at cA cB
  have hk : Keep [] w (w.alloc (.cells #[.int .i64 l.a, .int .i64 l.p, .int .i64 l.f, .bool l.w] 29)) := (Keep.refl _ _).alloc _
  clear hA hB
  obtain ⟨la, lp, lf, lw⟩ := l
  simp only at hk ⊢
  by_cases h1 : la = a
  · subst h1
    go_enter Try.func45, Try.ntmps45
    go_wp2
    go_ret
    exact ⟨show Ending.returned (.bool (lp == p)) = _ by simp, hk⟩
  · have h1' : (la == a) = false := by simpa using h1
    clear h1
    go_enter Try.func45, Try.ntmps45
    go_wp2
    go_ret
    exact ⟨by rw [h1']; rfl, hk⟩
theorem dropN_succ (pr : Option Ln → Bool) (S : Nat → Option Ln) (k : Nat) : dropN pr S (k + 1) = dropN pr S k + if pr (S k) then 1 else 0 := rfl
theorem linesR_succ (S : Nat → Option Ln) (k : Nat) : linesR S (k + 1) = linesR S k ++ (S k).toList := rfl
/-- behind k of the eight -/
def dropTo (pr : Option Ln → Bool) (S : Nat → Option Ln) (k : Nat) : Nat → Option Ln := fun i => if i < k ∧ pr (S i) = true then none else S i
theorem dropTo_yes (pr : Option Ln → Bool) (S : Nat → Option Ln) (k : Nat) (h : pr (S k) = true) : upS (dropTo pr S k) k none = dropTo pr S (k + 1) := by
  funext i
  unfold upS dropTo
  by_cases e : i = k
  · subst e; rw [if_pos rfl, if_pos ⟨by omega, h⟩]
  · rw [if_neg e]
    by_cases h2 : i < k ∧ pr (S i) = true
    · rw [if_pos h2, if_pos ⟨by omega, h2.2⟩]
    · rw [if_neg h2, if_neg (fun h3 => h2 ⟨by omega, h3.2⟩)]
theorem dropTo_no (pr : Option Ln → Bool) (S : Nat → Option Ln) (k : Nat) (h : pr (S k) = false) : dropTo pr S k = dropTo pr S (k + 1) := by
  funext i
  unfold dropTo
  by_cases e : i = k
  · subst e; rw [if_neg (fun h3 => by omega), if_neg (fun h3 => by rw [h] at h3; exact absurd h3.2 (by simp))]
  · by_cases h2 : i < k ∧ pr (S i) = true
    · rw [if_pos h2, if_pos ⟨by omega, h2.2⟩]
    · rw [if_neg h2, if_neg (fun h3 => h2 ⟨by omega, h3.2⟩)]
theorem BufIs.congr {w : World} {b : Nat} {K : List Nat} {S T : Nat → Option Ln} {P : Nat → Nat} (h : BufIs w b K S P) (e : ∀ i, i < 8 → S i = T i) : BufIs w b K T P :=
  ⟨by rw [← blk_congr (f := ptV S P) (fun i hi => by unfold ptV; rw [e i hi])]; exact h.hb, fun i hi l hl => h.hl i hi l (by rw [e i hi]; exact hl)⟩
def prL (p : Ln → Bool) : Option Ln → Bool
  | some l => p l
  | none => false
set_option maxRecDepth 100000 in
set_option maxHeartbeats 800000 in
theorem tDropAll (w : World) (b : Nat) (K : List Nat) (S : Nat → Option Ln) (P : Nat → Nat) (hB : BufIs w b K S P) (N : Nat) (caps : Array Value) (pl : Ln → Bool) (hN : ∀ args w, (callFunc N args).run Try.prog w = .ok (.enter N args) w)
    (hcall : ∀ wr, Keep [b] w wr → ∀ l : Ln, Calls Try.prog N (#[.agg #[.int .i64 l.a, .int .i64 l.p, .int .i64 l.f, .bool l.w]] ++ caps) wr fun e w' => e = .returned (.bool (pl l)) ∧ Keep [] wr w') :
    Calls Try.prog 42 #[.pointer (some ⟨b, 0, none⟩), .func (.func N) #[] caps] w fun e w' => e = .returned (.int .i64 (dropN (prL pl) S 8 : Nat)) ∧ BufAt w' b K (dropS (prL pl) S) ∧ Keep [b] w w' := by
  have R0 := Lib.hid (range_ob hB.hb)
  have h0 : BufIs w b K (dropTo (prL pl) S 0) P := hB.congr (fun i _ => by unfold dropTo; rw [if_neg (by omega)])
  have HO := Lib.hid hB
  clear hB
  go_enter Try.func42, Try.ntmps42
  go_wp2_with (first
    | ((with_reducible refine at_load 64 10 ?_); refine wpList_load_mid rfl 64 (.tmp 10) rfl b 0 rfl (blk (ptV S P) 8).toList _ R0.out Try.underlying64 rfl (by rw [size64, blk_len]) ?_))
  have HC := Lib.hid hcall
  clear hcall
  go_loopg [5, 12] 8 (fun gn c i wr => ∃ k : Nat, i = .int .i64 k ∧ k ≤ 8 ∧ gn = 8 - k ∧ c = .int .i64 (dropN (prL pl) S k : Nat) ∧ BufIs wr b K (dropTo (prL pl) S k) P ∧ Keep [b] w wr)
  case atStart => exact ⟨0, rfl, by omega, by omega, rfl, h0, Keep.refl _ _⟩
  case round =>
    clear h0
    obtain ⟨k, rfl, hk8, rfl, rfl, hB, hkp⟩ := hrel
    have hdl := dropN_le (prL pl) S k
    by_cases hk : k < 8
    · cases hs : S k with
      | none =>
        have hp : prL pl (S k) = false := by rw [hs]; rfl
        have HE : Hid (dropN (prL pl) S (k + 1) = dropN (prL pl) S k) := Lib.hid (by rw [dropN_succ, hp]; rfl)
        have H2 := Lib.hid (And.intro (dropTo_no (prL pl) S k hp ▸ hB) hkp)
        have hpt : ptV S P k = .pointer none := by unfold ptV; rw [hs]; rfl
        have hix := idx64 (ptV S P) k hk wr
        rw [hpt] at hix
        clear hB hkp hp hs hpt hN
        generalize dropN (prL pl) S k = c at *
        go_wp2_with (first
          | (refine wpList_index_eq rfl 64 (.tmp 11) (.tmp 12) rfl rfl rfl hix ?_))
        go_roundg (8 - (k + 1))
        case measure => omega
        case rel => exact ⟨k + 1, by go_num, by omega, rfl, by rw [HE.out], H2.out.1, H2.out.2⟩
      | some l =>
        have hpt : ptV S P k = .pointer (some ⟨P k, 0, none⟩) := by unfold ptV; rw [hs]; rfl
        have hix := idx64 (ptV S P) k hk wr
        rw [hpt] at hix
        have hol := hkp.kp (HO.out.hl k hk l hs).1 (by simp; exact (HO.out.hl k hk l hs).2.1)
        have cl := cell_of_ob hol
        have cl0 := cl 0
        have cl1 := cl 1
        have cl2 := cl 2
        have cl3 := cl 3
        simp only [List.getElem?_toArray, List.getElem?_cons_zero, List.getElem?_cons_succ] at cl0 cl1 cl2 cl3
        have hc := HC.out wr hkp l
        have HS := Lib.hid hs
        clear cl hol hpt hs
        cases hp : pl l with
        | false =>
          rw [hp] at hc
          have hp2 : prL pl (S k) = false := by rw [HS.out]; exact hp
          have HE : Hid (dropN (prL pl) S (k + 1) = dropN (prL pl) S k) := Lib.hid (by rw [dropN_succ, hp2]; rfl)
          have hB' := dropTo_no (prL pl) S k hp2 ▸ hB
          clear hB hp hp2
          generalize dropN (prL pl) S k = c at *
          go_wp2_with (first
            | (refine wpList_index_eq rfl 64 (.tmp 11) (.tmp 12) rfl rfl rfl hix ?_))
          refine hc.mono ?_
          rintro _ w2 ⟨rfl, hk2⟩
          have H2 := Lib.hid (And.intro (hB'.keep hk2 (by simp) (by simp)) (hkp.trans (hk2.mono (by simp))))
          clear hc hB' hkp hk2 hix
          go_wp2
          go_roundg (8 - (k + 1))
          case measure => omega
          case rel => exact ⟨k + 1, by go_num, by omega, rfl, by rw [HE.out], H2.out.1, H2.out.2⟩
        | true =>
          rw [hp] at hc
          have hp2 : prL pl (S k) = true := by rw [HS.out]; exact hp
          have HE : Hid (dropN (prL pl) S (k + 1) = dropN (prL pl) S k + 1) := Lib.hid (by rw [dropN_succ, hp2]; rfl)
          have HY := Lib.hid (dropTo_yes (prL pl) S k hp2)
          clear hp hp2
          generalize dropN (prL pl) S k = c at *
          go_wp2_with (first
            | (refine wpList_index_eq rfl 64 (.tmp 11) (.tmp 12) rfl rfl rfl hix ?_))
          refine hc.mono ?_
          rintro _ w2 ⟨rfl, hk2⟩
          have hB2 := hB.keep hk2 (by simp) (by simp)
          have kk2 := hkp.trans (hk2.mono (T := [b]) (by simp))
          have cb : w2.cell? ⟨b, k, none⟩ = some (ptV (dropTo (prL pl) S k) P k) := blk_cell hB2.hb hk
          have fb := free_of_ob hB2.hb
          have H2 := Lib.hid (And.intro (HY.out ▸ hB2.clear k) (kk2.setCell (.inl (by simp)) (b := b) k (.pointer none)))
          clear hc hB hB2 hkp hk2 hix kk2
          go_wp2
          go_roundg (8 - (k + 1))
          case measure => omega
          case rel => exact ⟨k + 1, by go_num, by omega, rfl, by rw [HE.out]; go_num, H2.out.1, H2.out.2⟩
    · obtain rfl : k = 8 := by omega
      have H2 : Hid (BufAt wr b K (dropS (prL pl) S)) := Lib.hid ⟨P, hB.congr (fun i hi => by unfold dropTo dropS; simp [hi])⟩
      clear hB hN
      go_wp2
      go_ret
      exact ⟨rfl, H2.out, hkp⟩
theorem prL_A (a : Int) : prL (fun l => l.a == a) = eqA a := by funext o; cases o <;> rfl
theorem prL_K (a p : Int) : prL (fun l => l.a == a && l.p == p) = eqK a p := by funext o; cases o <;> rfl
set_option maxRecDepth 100000 in
set_option maxHeartbeats 800000 in
theorem tFlush (w : World) (b : Nat) (K : List Nat) (S : Nat → Option Ln) (hB : BufAt w b K S) (a : Int) :
    Calls Try.prog 16 #[.pointer (some ⟨b, 0, none⟩), .int .i64 a] w fun e w' => e = .returned (.int .i64 (dropN (eqA a) S 8 : Nat)) ∧ BufAt w' b K (dropS (eqA a) S) ∧ Keep [b] w w' := by
  obtain ⟨P, hB⟩ := hB
  have hmf : ∀ (fn : Fn) (first cap : Array Value) (w : World), (Instr.makeFunc fn first cap).run Try.prog w = .ok (.func fn first cap) w := fun _ _ _ _ => rfl
  have eA := al_new w (.cells #[.int .i64 a] 3) rfl
  have hk : Keep [] w (w.alloc (.cells #[.int .i64 a] 3)) := (Keep.refl _ _).alloc _
  have lb := ob_lt hB.hb
  have H := Lib.hid (And.intro hB (And.intro eA hk))
  clear hB eA hk
  go_enter Try.func16, Try.ntmps16
  go_wp2_with fail
  obtain ⟨hB, eA, hk⟩ := H.out
  generalize w.alloc (.cells #[.int .i64 a] 3) = w1 at *
  refine (tDropAll w1 b K S P (hB.keep hk (by simp) (by simp)) 43 #[.pointer (some ⟨w.heap.size, 0, none⟩)] (fun l => l.a == a) enters43 ?_).mono ?_
  · intro wr hkr l
    exact tEqA a l w.heap.size wr (hkr.kp eA (by simp; omega))
  · rw [prL_A]
    rintro _ w2 ⟨rfl, hB2, hk2⟩
    have H2 := Lib.hid (And.intro hB2 (hk.mono (T := [b]) (by simp) |>.trans hk2))
    clear hB hB2 eA hk hk2 H hmf
    go_wp2
    go_ret
    exact ⟨rfl, H2.out.1, H2.out.2⟩
set_option maxRecDepth 100000 in
set_option maxHeartbeats 800000 in
theorem tDrop (w : World) (b : Nat) (K : List Nat) (S : Nat → Option Ln) (hB : BufAt w b K S) (a p : Int) :
    Calls Try.prog 18 #[.pointer (some ⟨b, 0, none⟩), .int .i64 a, .int .i64 p] w fun e w' => e = .returned (.bool (decide (0 < dropN (eqK a p) S 8))) ∧ BufAt w' b K (dropS (eqK a p) S) ∧ Keep [b] w w' := by
  obtain ⟨P, hB⟩ := hB
  have hmf : ∀ (fn : Fn) (first cap : Array Value) (w : World), (Instr.makeFunc fn first cap).run Try.prog w = .ok (.func fn first cap) w := fun _ _ _ _ => rfl
  have eA := al (al_new w (.cells #[.int .i64 a] 3) rfl) (o' := .cells #[.int .i64 p] 3)
  have eB := al_new (w.alloc (.cells #[.int .i64 a] 3)) (.cells #[.int .i64 p] 3) rfl
  have hs : (w.alloc (.cells #[.int .i64 a] 3)).heap.size = w.heap.size + 1 := by simp
  rw [hs] at eB
  have hk : Keep [] w ((w.alloc (.cells #[.int .i64 a] 3)).alloc (.cells #[.int .i64 p] 3)) := ((Keep.refl _ _).alloc _).alloc _
  have lb := ob_lt hB.hb
  have H := Lib.hid (And.intro hB (And.intro eA (And.intro eB hk)))
  clear hB eA eB hs hk
  go_enter Try.func18, Try.ntmps18
  go_wp2_with fail
  obtain ⟨hB, eA, eB, hk⟩ := H.out
  generalize (w.alloc (.cells #[.int .i64 a] 3)).alloc (.cells #[.int .i64 p] 3) = w1 at *
  refine (tDropAll w1 b K S P (hB.keep hk (by simp) (by simp)) 45 #[.pointer (some ⟨w.heap.size, 0, none⟩), .pointer (some ⟨w.heap.size + 1, 0, none⟩)] (fun l => l.a == a && l.p == p) enters45 ?_).mono ?_
  · intro wr hkr l
    exact tEqAP a p l w.heap.size (w.heap.size + 1) wr (hkr.kp eA (by simp; omega)) (hkr.kp eB (by simp; omega))
  · rw [prL_K]
    rintro _ w2 ⟨rfl, hB2, hk2⟩
    have H2 := Lib.hid (And.intro hB2 (hk.mono (T := [b]) (by simp) |>.trans hk2))
    clear hB hB2 eA eB hk hk2 H hmf
    go_wp2
    go_ret
    exact ⟨ret_b (by simp), H2.out.1, H2.out.2⟩
set_option maxRecDepth 100000 in
set_option maxHeartbeats 800000 in
theorem tClear (w : World) (b : Nat) (K : List Nat) (S : Nat → Option Ln) (hB : BufAt w b K S) :
    Calls Try.prog 21 #[.pointer (some ⟨b, 0, none⟩)] w fun e w' => e = .returned (.tuple #[]) ∧ BufAt w' b K (fun _ => none) ∧ Keep [b] w w' := by
  obtain ⟨P, hB⟩ := hB
  have T0 := Lib.hid (blk_there hB.hb (o := 0) (k := 8) (by omega))
  have H2 : Hid (BufAt (w.setCells b 0 (blk (ptV (fun _ => none) P) 8).toList) b K (fun _ => none) ∧ Keep [b] w (w.setCells b 0 (blk (ptV (fun _ => none) P) 8).toList)) :=
    Lib.hid ⟨⟨P, store_blk hB.hb, fun i _ l h => by cases h⟩, (Keep.refl _ _).setCells (.inl (by simp)) _ _⟩
  clear hB
  go_enter Try.func21, Try.ntmps21
  go_wp2_with (first
    | ((with_reducible refine at_store 64 5 3 ?_); refine wpList_store_mid rfl 64 (.tmp 5) (.tmp 3) rfl b 0 (blk (ptV (fun _ => none) P) 8) rfl rfl (by rw [blk_size]; exact T0.out) (by rw [size64, blk_size]) (blk_all _ _ (fun _ _ => rfl)) ?_))
  go_end0
  exact ⟨rfl, H2.out.1, H2.out.2⟩
theorem info29 : (Try.prog.info? 29).map (fun i => (i.zero, i.size, i.bytes)) = some (some (.agg #[.int .i64 0, .int .i64 0, .int .i64 0, .bool false]), 4, 32) := by kernel_rfl
def LinesQ (S : Nat → Option Ln) (w : World) (e : Ending) (w' : World) : Prop := ∃ v, e = .returned v ∧ RowE lnE 29 w' w.heap.size v (linesR S 8) ∧ Keep [] w w'
set_option maxRecDepth 100000 in
set_option maxHeartbeats 800000 in
theorem tLines (w : World) (b : Nat) (K : List Nat) (S : Nat → Option Ln) (hB : BufAt w b K S) :
    Calls Try.prog 15 #[.pointer (some ⟨b, 0, none⟩)] w (LinesQ S w) := by
  obtain ⟨P, hB⟩ := hB
  have R0 := Lib.hid (range_ob hB.hb)
  have HO := Lib.hid hB
  clear hB
  go_enter Try.func15, Try.ntmps15
  go_wp2_with (first
    | ((with_reducible refine at_load 64 8 ?_); refine wpList_load_mid rfl 64 (.tmp 8) rfl b 0 rfl (blk (ptV S P) 8).toList _ R0.out Try.underlying64 rfl (by rw [size64, blk_len]) ?_))
  go_loopg [3, 10] 8 (fun gn v i wr => ∃ k : Nat, i = .int .i64 k ∧ k ≤ 8 ∧ gn = 8 - k ∧ RowE lnE 29 wr w.heap.size v (linesR S k) ∧ Keep [] w wr)
  case atStart => exact ⟨0, rfl, by omega, by omega, RowE.nil _ _, Keep.refl _ _⟩
  case round =>
    obtain ⟨k, rfl, hk8, rfl, hR, hkp⟩ := hrel
    have hll := linesR_len S k
    by_cases hk : k < 8
    · cases hs : S k with
      | none =>
        have HE : Hid (linesR S (k + 1) = linesR S k) := Lib.hid (by rw [linesR_succ, hs]; simp)
        have hpt : ptV S P k = .pointer none := by unfold ptV; rw [hs]; rfl
        have hix := idx64 (ptV S P) k hk wr
        rw [hpt] at hix
        have H2 := Lib.hid (And.intro hR hkp)
        clear hs hpt hR hkp
        go_wp2_with (first
          | (refine wpList_index_eq rfl 64 (.tmp 9) (.tmp 10) rfl rfl rfl hix ?_))
        go_roundg (8 - (k + 1))
        case measure => omega
        case rel => exact ⟨k + 1, by go_num, by omega, rfl, by rw [HE.out]; exact H2.out.1, H2.out.2⟩
      | some l =>
        have HE : Hid (linesR S (k + 1) = linesR S k ++ [l]) := Lib.hid (by rw [linesR_succ, hs]; rfl)
        have hpt : ptV S P k = .pointer (some ⟨P k, 0, none⟩) := by unfold ptV; rw [hs]; rfl
        have hix := idx64 (ptV S P) k hk wr
        rw [hpt] at hix
        have hol := hkp.kp (HO.out.hl k hk l hs).1 (by simp)
        have cl := cell_of_ob hol
        have cl0 := cl 0
        have cl1 := cl 1
        have cl2 := cl 2
        have cl3 := cl 3
        simp only [List.getElem?_toArray, List.getElem?_cons_zero, List.getElem?_cons_succ] at cl0 cl1 cl2 cl3
        obtain ⟨va, vc, hva⟩ := hR.slice
        subst hva
        have hsz := hkp.size
        have hR2 : RowE lnE 29 (wr.alloc (.cells #[.int .i64 l.a, .int .i64 l.p, .int .i64 l.f, .bool l.w] 29)) w.heap.size _ _ := hR.keep (S := []) ((Keep.refl _ _).alloc _) (by simp)
        have hsz2 : (wr.alloc (.cells #[.int .i64 l.a, .int .i64 l.p, .int .i64 l.f, .bool l.w] 29)).heap.size = wr.heap.size + 1 := by simp
        obtain ⟨va2, vc2, w3, r1, hR3, hk3, _⟩ := hR2.push Try.underlying34 info29 rfl (by omega) l (b := wr.heap.size) (al_new _ _ rfl) 1 (by omega) (by omega) (by omega)
        have H2 : Hid (RowE lnE 29 w3 w.heap.size (.slice va2 ((linesR S k).length + 1) vc2) (linesR S k ++ [l]) ∧ Keep [] w w3) :=
          Lib.hid ⟨hR3, (hkp.alloc _).andThen hk3 (fun x hx => .inr (ownBlock_ge hR2 (Option.mem_toList.1 hx)))⟩
        have R1 := r1 34
        clear hs hpt hR hR2 hR3 hkp hk3 cl hol r1 hsz2
        generalize (linesR S k).length = n at *
        go_wp2_with (first
          | (refine wpList_index_eq rfl 64 (.tmp 9) (.tmp 10) rfl rfl rfl hix ?_)
          | (at_builtin; refine wpList_append_eq (o := ⟨some 20, _, _, _, _, _⟩) rfl _ _ _ rfl rfl rfl R1 ?_))
        go_roundg (8 - (k + 1))
        case measure => omega
        case rel => exact ⟨k + 1, by go_num, by omega, rfl, by rw [HE.out]; exact H2.out.1, H2.out.2⟩
    · obtain rfl : k = 8 := by omega
      have H2 := Lib.hid (And.intro hR hkp)
      clear hR hkp
      go_wp2
      go_ret
      exact ⟨_, rfl, H2.out.1, H2.out.2⟩
end Go.Proofs.Ytfihnnijcaapkaa
