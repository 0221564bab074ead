import Derived.Test.YtajlpicdkdeceaaDoorJf
import Derived.Lib.OthersKept
namespace Go.Proofs.YtajlpicdkdeceaaDoor
open Go.RowKit
set_option linter.unusedSimpArgs false
set_option linter.unusedVariables false
attribute [local go_sem] ob_alloc ob_drew ob_drewN ob_setCell ob_setBlock objSet_cells obMap_map obClock_map isMapI_map keyI_mk findI_nil findI_cons lookRes_some lookRes_none lookRes_some' lookRes_none' setBlock_alloc mapPut
open Go.Lib

theorem spl_le : ∀ (s x : List UInt8), x ∈ spl s → x.length ≤ s.length
  | [], x, h => by simp [spl] at h; simp [h]
  | c :: r, x, h => by
    have ih := spl_le r
    rw [spl] at h
    split at h
    · rcases List.mem_cons.1 h with rfl | h
      · simp
      · have := ih x h; simp; omega
    · split at h
      · rename_i y t hy
        rcases List.mem_cons.1 h with rfl | h
        · have := ih y (by rw [hy]; simp)
          simp; omega
        · have := ih x (by rw [hy]; simp [h])
          simp; omega
      · simp at h
        simp [h]
theorem look_hit {w : World} {b : Nat} (h : Own54 w b 12 12) (s : ByteArray) (hs : s.size ≤ maxLen) (o : Nat) (ho : o < 12) (he : wd o = s.data.toList) : (Instr.lookup 54 (.map (some b)) (.string s) true).run Tryd.prog w = .ok (.tuple #[.int .i64 (o : Int), .bool true]) w := by
  rcases look54 h s hs with ⟨o', ho', he', hr⟩ | ⟨hm, _⟩
  · obtain rfl := wd_inj o o' ho ho' (he.trans he'.symm)
    exact hr
  · exact absurd he (hm o ho)
theorem look_miss {w : World} {b : Nat} (h : Own54 w b 12 12) (s : ByteArray) (hs : s.size ≤ maxLen) (hm : ∀ o, o < 12 → wd o ≠ s.data.toList) : ∃ x : Int, (Instr.lookup 54 (.map (some b)) (.string s) true).run Tryd.prog w = .ok (.tuple #[.int .i64 x, .bool false]) w := by
  rcases look54 h s hs with ⟨o', ho', he', hr⟩ | ⟨_, hr⟩
  · exact absurd he' (hm o' ho')
  · exact hr
def zeroIN : IN := ⟨0, 0, 0, 0, 0⟩
def ReadP (w : World) (r : Option IN) : Ending → World → Prop := fun e w' => Keep [] w w' ∧ e = .returned (.tuple #[inV (r.getD zeroIN), .int .i64 (if r.isSome = true then 0 else 11)])
/-- what the text's parts must be, if it is one -/
theorem parts_of {s : List UInt8} {i : IN} (ht : text i = s) : spl s = parts i := by rw [← ht, spl_text]
theorem none_of_head {s : List UInt8} {l : List UInt8} {r : List (List UInt8)} (hs : spl s = l :: r) (hm : ∀ o, o < 12 → wd o ≠ l) : decT s = none := by
  refine decT_none (fun i hi ht => ?_)
  have := parts_of ht
  rw [hs] at this
  obtain ⟨o, ho, ho2⟩ := op_nat hi
  have h1 := (List.cons.inj this).1
  rw [ho] at h1
  exact hm o ho2 h1.symm
theorem op_of {s : List UInt8} {l : List UInt8} {r : List (List UInt8)} (hs : spl s = l :: r) {o : Nat} (ho : o < 12) (hl : wd o = l) {i : IN} (hi : right i = true) (ht : text i = s) : i.op = o ∧ r = argsTo i 5 := by
  have := parts_of ht
  rw [hs] at this
  obtain ⟨o', ho', ho2⟩ := op_nat hi
  obtain ⟨h1, h2⟩ := List.cons.inj this
  rw [ho'] at h1
  have : o = o' := wd_inj o o' ho ho2 (hl.trans h1)
  exact ⟨by rw [ho', this], h2⟩
/-- the places that an operation names, in turn -/
def PS (o : Nat) : List Nat := (List.range 5).filter (named o)
theorem ps_nm : ∀ o : Fin 12, PS o.val = (nm o.val).map fun c => (indexByte [95, 97, 98, 99, 105] c).toNat := by decide
theorem nm_ok : ∀ o : Fin 12, ∀ c ∈ nm o.val, c.toNat < 128 ∧ 0 ≤ indexByte [95, 97, 98, 99, 105] c ∧ indexByte [95, 97, 98, 99, 105] c < 5 := by decide
theorem args_ps (i : IN) : argsTo i 5 = (PS i.op.toNat).map (arg i) := rfl
theorem ps_len (o : Nat) (ho : o < 12) : (PS o).length = (nm o).length := by
  have := ps_nm ⟨o, ho⟩
  simp only at this
  rw [this, List.length_map]
theorem ps_at (o : Nat) (ho : o < 12) (k : Nat) (hk : k < (nm o).length) : ∃ j, (PS o)[k]? = some j ∧ indexByte [95, 97, 98, 99, 105] ((nm o)[k]'hk) = (j : Int) ∧ j < 5 ∧ 0 < j ∧ ((nm o)[k]'hk).toNat < 128 := by
  have h1 := ps_nm ⟨o, ho⟩
  simp only at h1
  obtain ⟨h2, h3, h4⟩ := nm_ok ⟨o, ho⟩ _ (List.getElem_mem hk)
  refine ⟨(indexByte [95, 97, 98, 99, 105] ((nm o)[k]'hk)).toNat, by rw [h1, List.getElem?_map, List.getElem?_eq_getElem hk]; rfl, by omega, by omega, ?_, h2⟩
  have hmem : (indexByte [95, 97, 98, 99, 105] ((nm o)[k]'hk)).toNat ∈ PS o := by rw [h1]; exact List.mem_map.2 ⟨_, List.getElem_mem hk, rfl⟩
  unfold PS at hmem
  rw [List.mem_filter] at hmem
  have := hmem.2
  unfold named at this
  simp at this
  omega
theorem arg_read {s : List UInt8} {L : List ByteArray} (hL : L.map (·.data.toList) = spl s) {l : List UInt8} {lt : List (List UInt8)} (hspl : spl s = l :: lt) {o : Nat} (ho : o < 12) (hoe : wd o = l) {i : IN} (hi : right i = true) (ht : text i = s)
    {k j : Nat} {lx : ByteArray} (hlx : L[k + 1]? = some lx) (hj : (PS o)[k]? = some j) (hj5 : j < 5) (hj0 : 0 < j) : atoiAll (trimPrefix lx.data.toList [114]) = .ok (i.f j) := by
  obtain ⟨h1, h2⟩ := op_of hspl ho hoe hi ht
  have h3 : (spl s)[k + 1]? = some lx.data.toList := by rw [← hL, List.getElem?_map, hlx]; rfl
  rw [hspl, List.getElem?_cons_succ, h2, args_ps, h1, Int.toNat_natCast, List.getElem?_map, hj] at h3
  simp only [Option.map_some, Option.some.injEq] at h3
  rw [← h3]
  have hf := right_f hi hj5 hj0
  unfold arg
  split
  · rw [trim_dec, atoi_dec _ (by omega)]
    congr 1; omega
  · rw [trim_r, atoi_dec _ (by omega)]
    congr 1; omega
/-- the reading in work -/
structure DW (w0 w : World) (rb lb pb ib : Nat) (L : List ByteArray) (p : Nat → Int) (nb : ByteArray) (k : Nat) : Prop where
  orb : ob w rb = some (.cells (blk (vI fun _ => 0) 5) 23 (0, 0))
  olb : ob w lb = some (.cells (L.map Value.string).toArray 9 (0, 0))
  opb : ob w pb = some (.cells (blk (vI p) 5) 44 (0, 0))
  oib : ob w ib = some (.stringIter nb k)
  kp : Keep [] w0 w
  n1 : w0.heap.size ≤ pb
  n2 : w0.heap.size ≤ ib
section
variable {w0 w w' : World} {rb lb pb ib : Nat} {L : List ByteArray} {p : Nat → Int} {nb : ByteArray} {k : Nat}
theorem DW.new (h : DW w0 w rb lb pb ib L p nb k) (hk : Keep [] w w') : DW w0 w' rb lb pb ib L p nb k :=
  ⟨hk.kp h.orb (by simp), hk.kp h.olb (by simp), hk.kp h.opb (by simp), hk.kp h.oib (by simp), h.kp.trans hk, h.n1, h.n2⟩
theorem DW.step (h : DW w0 w rb lb pb ib L p nb k) (k' : Nat) : DW w0 (w.iterAt ib nb k') rb lb pb ib L p nb k' := by
  have ne : ∀ {b : Nat} {x : Obj}, ob w b = some x → (∀ s q, x ≠ .stringIter s q) → b ≠ ib := fun {b x} hb hx e => by
    subst e
    rw [h.oib] at hb
    exact hx _ _ (Option.some.inj hb).symm
  have hK : Keep [ib] w (w.iterAt ib nb k') := ⟨rfl, rfl, rfl, by rw [Lib.iterAt_size]; exact Nat.le_refl _, fun i hi hm => Lib.iterAt_other w ib i _ k' (by simpa using hm)⟩
  exact ⟨hK.kp h.orb (by simpa using ne h.orb (by simp)), hK.kp h.olb (by simpa using ne h.olb (by simp)), hK.kp h.opb (by simpa using ne h.opb (by simp)), Lib.iterAt_heap w ib _ k k' h.oib, h.kp.andThen hK (by intro y hy; simp at hy; subst hy; exact .inr h.n2), h.n1, h.n2⟩
theorem DW.put (h : DW w0 w rb lb pb ib L p nb k) (j : Nat) (x : Int) : DW w0 (w.setCell ⟨pb, j, none⟩ (.int .i64 x)) rb lb pb ib L (updW p j x) nb k := by
  have hK : Keep [pb] w (w.setCell ⟨pb, j, none⟩ (.int .i64 x)) := (Keep.refl _ _).setCell (.inl (by simp)) _ _
  have ne : ∀ {b : Nat} {cs : Array Value} {t : TypeId} {f : Nat × Nat}, ob w b = some (.cells cs t f) → t ≠ 44 → b ≠ pb := fun {b cs t f} hb ht e => by
    subst e
    rw [h.opb] at hb
    simp at hb
    exact ht hb.2.1.symm
  have nei : ib ≠ pb := fun e => by
    have h1 := h.oib
    rw [e, h.opb] at h1
    cases h1
  have ho := blk_store h.opb j (.int .i64 x)
  rw [vI_upd] at ho
  exact ⟨hK.kp h.orb (by simpa using ne h.orb (by decide)), hK.kp h.olb (by simpa using ne h.olb (by decide)), ho, hK.kp h.oib (by simpa using nei), h.kp.andThen hK (by intro y hy; simp at hy; subst hy; exact .inr h.n1), h.n1, h.n2⟩
end
set_option maxRecDepth 100000 in
set_option maxHeartbeats 4000000 in
theorem pRead (w : World) (s : ByteArray) (hs : s.size ≤ 1000) (hE : Env w) : Calls Tryd.prog 10 #[.string s] w (ReadP w (decT s.data.toList)) := by
  obtain ⟨m0, hm0⟩ := hE.mx
  have hz := hE.z
  have hA : Keep [] w (w.alloc (.cells #[.int .i64 0, .int .i64 0, .int .i64 0, .int .i64 0, .int .i64 0] 23)) := (Keep.refl _ _).alloc _
  have HA := Lib.hid (And.intro hA (And.intro (al_new w (.cells #[.int .i64 0, .int .i64 0, .int .i64 0, .int .i64 0, .int .i64 0] 23) rfl) hE))
  clear hE
  go_enter Tryd.func10, Tryd.ntmps10
  go_wp2_with fail
  obtain ⟨hA, hrb, hE⟩ := HA.out
  clear HA
  have hm1 := (cell_old hA hz (i := 0)).trans hm0
  generalize w.alloc (.cells #[.int .i64 0, .int .i64 0, .int .i64 0, .int .i64 0, .int .i64 0] 23) = w1 at *
  obtain ⟨rb, hrbe⟩ : ∃ rb, w.heap.size = rb := ⟨_, rfl⟩
  have HRE := Lib.hid hrbe
  rw [hrbe] at hrb
  try simp only [hrbe]
  clear hrbe
  refine (Tryd.strings_Split s ⟨#[32]⟩ m0 w1 (by omega) hm1 (by decide)).mono ?_
  rintro _ w2 ⟨rfl, hw2⟩
  have hB : Keep [] w1 w2 := by rw [hw2]; exact (Keep.refl _ _).alloc _
  have hlb : ob w2 w1.heap.size = some (.cells ((splitB ⟨#[32]⟩ 0 (countB s ⟨#[32]⟩) s).map Value.string).toArray 9 (0, 0)) := by rw [hw2]; exact al_new w1 _ rfl
  have hLd : (splitB ⟨#[32]⟩ 0 (countB s ⟨#[32]⟩) s).map (·.data.toList) = spl s.data.toList := by
    rw [splitB_data]
    exact (spl_split _ s.data.toList rfl).1
  have hLn : (splitB ⟨#[32]⟩ 0 (countB s ⟨#[32]⟩) s).length = countB s ⟨#[32]⟩ + 1 := by
    have h1 := (spl_split _ s.data.toList rfl).2
    rw [← hLd, List.length_map] at h1
    exact h1
  have hNn : countB s ⟨#[32]⟩ ≤ 1001 := by
    have := Lib.count_le s.data.toList [32]
    have e : s.data.toList.length = s.size := Array.length_toList
    show Lib.count s.data.toList [32] ≤ 1001
    omega
  generalize countB s ⟨#[32]⟩ = N at *
  generalize splitB ⟨#[32]⟩ 0 N s = L at *
  have hall : ∀ (j : Nat) x, L[j]? = some x → w2.cell? ⟨w1.heap.size, 0 + j, none⟩ = some (.string x) := fun j x hj => by
    rw [Nat.zero_add, cell_of_ob hlb]
    simp [hj]
  have h0 : L[0]? = some (L[0]'(by omega)) := List.getElem?_eq_getElem _
  obtain ⟨l0, hl0⟩ : ∃ l0, (L[0]'(by omega)) = l0 := ⟨_, rfl⟩
  rw [hl0] at h0
  have q0 := hall 0 l0 h0
  rw [Nat.add_zero] at q0
  have hlt := ob_lt hlb
  obtain ⟨lt, hspl⟩ : ∃ lt, spl s.data.toList = l0.data.toList :: lt := by
    rw [← hLd]
    cases L with
    | nil => simp at hLn
    | cons a t => simp at hl0; exact ⟨t.map (·.data.toList), by rw [← hl0]; rfl⟩
  have hLs : ∀ x ∈ L, x.size ≤ 1000 := fun x hx => by
    have h1 : x.data.toList ∈ spl s.data.toList := by rw [← hLd]; exact List.mem_map.2 ⟨x, hx, rfl⟩
    have h2 := spl_le _ _ h1
    have e1 : s.data.toList.length = s.size := Array.length_toList
    have e2 : x.data.toList.length = x.size := Array.length_toList
    omega
  have hl0s : l0.size ≤ maxLen := by
    have := hLs l0 (List.mem_of_getElem? h0)
    unfold maxLen; omega
  have HS := Lib.hid (And.intro hLd (And.intro hLn (And.intro hspl hLs)))
  have HK := Lib.hid (And.intro (hA.trans hB) (And.intro (hB.kp hrb (by simp)) (And.intro hlb (hE.keep (hA.trans hB)))))
  clear hLd hspl hLs hA hB hrb hlb hE hw2 hm1 hm0 h0 hall hl0
  obtain ⟨lb, hlbe⟩ : ∃ lb, w1.heap.size = lb := ⟨_, rfl⟩
  rw [hlbe] at HK q0 hlt
  simp only [hlbe]
  have hq2 : ∀ w' w'', (w'.cell? ⟨lb, 0, none⟩ = some (.string l0) ∧ Keep [] w2 w') → Keep [] w' w'' → (w''.cell? ⟨lb, 0, none⟩ = some (.string l0) ∧ Keep [] w2 w'') := fun w' w'' h1 h2 => by
    have h3 := h1.2.trans h2
    exact ⟨(cell_old h3 hlt).trans q0, h3⟩
  by_cases hex : ∃ o, o < 12 ∧ wd o = l0.data.toList
  · obtain ⟨o, ho, hoe⟩ := hex
    go_upto_region 2 with fail
    go_region_held3 (fun w' => w'.cell? ⟨lb, 0, none⟩ = some (.string l0) ∧ Keep [] w2 w') (first | exact ⟨q0, (Keep.refl _ _).drew⟩ | exact hq2 _ _ (by assumption) (by assumption) | go_keep)
      (first | (go_at_call 27; refine (pWords _).mono ?_; rintro _ w9 ⟨mb, rfl, hO9, hk9⟩; have hl9 := look_hit hO9 l0 hl0s o ho hoe))
    have hk29 := ‹_ ∧ Keep [] w2 _›.2
    have hi41 := idx41 o ho
    have hf40 := fld40 (wdB o) (nmB o)
    have HK9 := Lib.hid (And.intro (HK.out.1.trans hk29) hk29)
    clear hl9 hO9 hk9 hk29 hq2 q0
    obtain ⟨nb, hnb⟩ : ∃ nb, nmB o = nb := ⟨_, rfl⟩
    obtain ⟨wb, hwb⟩ : ∃ wb, wdB o = wb := ⟨_, rfl⟩
    rw [hnb, hwb] at hi41 hf40
    obtain ⟨M, hM⟩ : ∃ M, nb.size = M := ⟨_, rfl⟩
    have hMl : (nm o).length = M := by rw [← hM, ← hnb]; rfl
    have HPS := Lib.hid (And.intro ho (And.intro hoe (And.intro hnb hMl)))
    have hk12 : (o : Int) < 12 := by omega
    clear hnb hwb hMl hoe
    by_cases hNM : N = M
    · subst hNM
      go_upto_region 5 with (first | (go_at_call 17; refine (pForms _).mono ?_; rintro _ w10 ⟨rfl, hk10⟩))
      have hk210 := HK9.out.2.trans hk10
      have HK10 := Lib.hid (And.intro hk210 (HK9.out.1.trans hk10))
      clear hk10 HK9
      have hpb : ob (w10.alloc (.cells #[.int .i64 (o : Int), .int .i64 0, .int .i64 0, .int .i64 0, .int .i64 0] 44)) w10.heap.size = some (.cells (blk (vI fun j => if j = 0 then (o : Int) else 0) 5) 44 (0, 0)) := al_new w10 (.cells #[.int .i64 (o : Int), .int .i64 0, .int .i64 0, .int .i64 0, .int .i64 0] 44) rfl
      have HPB := Lib.hid hpb
      clear hpb hk210
      go_wp2_with (first | (go_at_call 17; refine (pForms _).mono ?_; rintro _ w11 ⟨rfl, hk11⟩))
      have hA10 : Keep [] w10 (w10.alloc (.cells #[.int .i64 (o : Int), .int .i64 0, .int .i64 0, .int .i64 0, .int .i64 0] 44)) := (Keep.refl _ _).alloc _
      have hk2 := HK10.out.1.trans (hA10.trans hk11)
      have hIt : Keep [] w11 (w11.iter nb 0) := (Keep.refl _ _).alloc _
      have hDW : DW w2 (w11.iter nb 0) rb lb w10.heap.size w11.heap.size L (fun j => if j = 0 then (o : Int) else 0) nb 0 :=
        ⟨hIt.kp (hk2.kp HK.out.2.1 (by simp)) (by simp), hIt.kp (hk2.kp HK.out.2.2.1 (by simp)) (by simp), hIt.kp (hk11.kp HPB.out (by simp)) (by simp), al_new w11 (.stringIter nb 0) rfl, hk2.trans hIt, HK10.out.1.size, hk2.size⟩
      have HDW := Lib.hid hDW
      clear hDW hIt hk2 hA10 hk11 HPB hi41 hf40
      generalize w11.iter nb 0 = w12 at *
      obtain ⟨pb, hpbe⟩ : ∃ pb, w10.heap.size = pb := ⟨_, rfl⟩
      obtain ⟨ib, hibe⟩ : ∃ ib, w11.heap.size = ib := ⟨_, rfl⟩
      rw [hpbe, hibe] at HDW
      simp only [hpbe, hibe]
      clear hpbe hibe
      have hob : (-9223372036854775808 : Int) ≤ o ∧ (o : Int) ≤ 9223372036854775807 := by omega
      go_loopg [9] N (fun gn s9 wr => ∃ (k : Nat) (p : Nat → Int), k ≤ N ∧ gn = N - k ∧ DW w2 wr rb lb pb ib L p nb k ∧ p 0 = o ∧ (∀ j, -9223372036854775808 ≤ p j ∧ p j ≤ 9223372036854775807) ∧ (∀ j, 0 < j → j ∉ (PS o).take k → p j = 0) ∧ (∀ i0, right i0 = true → text i0 = s.data.toList → ∀ j ∈ (PS o).take k, p j = i0.f j))
      case atStart => exact ⟨0, _, by omega, by omega, HDW.out, rfl, fun j => by split <;> omega, fun j hj _ => by rw [if_neg (by omega)], fun i0 _ _ j hj => by simp at hj⟩
      case round =>
        clear HDW
        obtain ⟨k, p, hk, rfl, hD, hp0, hpw, hpz, hpi⟩ := hrel
        by_cases hlt2 : k < N
        · have hkn : k < (nm o).length := by rw [HPS.out.2.2.2]; exact hlt2
          obtain ⟨j, hj1, hj2, hj3, hj4, hj5⟩ := ps_at o HPS.out.1 k hkn
          have hnk : ∀ h, (nb[k]'h).toNat = ((nm o)[k]'hkn).toNat := by
            have := HPS.out.2.2.1
            subst this
            intro h; rfl
          have hnx := Lib.run_next_ascii_at (P := Tryd.prog) wr ib nb k
          have hnx2 : ∀ ty, (Instr.next (.pointer (some ⟨ib, 0, none⟩)) true ty).run Tryd.prog wr = .ok (.tuple #[.bool true, .int .i64 (k : Int), .int .i32 (((nm o)[k]'hkn).toNat : Int)]) (wr.iterAt ib nb (k + 1)) := fun ty => by
            have := hnx ty hD.oib (by rw [hM]; exact hlt2) (by rw [hnk]; exact hj5)
            rw [hnk] at this
            exact this
          clear hnx hnk
          have hD1 := hD.step (k + 1)
          obtain ⟨cc, hcc⟩ : ∃ cc, ((nm o)[k]'hkn).toNat = cc := ⟨_, rfl⟩
          have hidx : indexByte [95, 97, 98, 99, 105] ((cc : Int).toNat.toUInt8) = (j : Int) := by
            rw [← hj2, ← hcc]; simp
          rw [hcc] at hnx2 hj5
          have HJ := Lib.hid (And.intro hj1 (And.intro hj3 hj4))
          have HREL := Lib.hid (And.intro hp0 (And.intro hpw (And.intro hpz hpi)))
          clear hD hp0 hpw hpz hpi hj1 hj2 hcc hkn
          have h1 : L[k + 1]? = some (L[k + 1]'(by omega)) := List.getElem?_eq_getElem _
          generalize (L[k + 1]'(by omega)) = lx at h1
          have hlx : lx.size ≤ 1000 := HS.out.2.2.2 lx (List.mem_of_getElem? h1)
          have q1 : (wr.iterAt ib nb (k + 1)).cell? ⟨lb, k + 1, none⟩ = some (.string lx) := by
            rw [cell_of_ob hD1.olb]; simp [h1]
          have lq := ob_lt hD1.olb
          have HD1 := Lib.hid hD1
          have HLX := Lib.hid h1
          clear h1 hD1
          generalize wr.iterAt ib nb (k + 1) = w13 at *
          obtain ⟨tx, htx⟩ : ∃ tx : ByteArray, (⟨(trimPrefix lx.data.toList [114]).toArray⟩ : ByteArray) = tx := ⟨_, rfl⟩
          have htxs : tx.size ≤ 1000 := by
            rw [← htx]
            have e : lx.data.toList.length = lx.size := Array.length_toList
            show (trimPrefix lx.data.toList [114]).toArray.size ≤ 1000
            unfold trimPrefix
            split <;> simp <;> omega
          have htxd : tx.data.toList = trimPrefix lx.data.toList [114] := by rw [← htx]
          have HTX := Lib.hid (fun w => htx ▸ Tryd.strings_TrimPrefix lx ⟨#[114]⟩ w)
          have hkN : (k : Int) + 1 < N + 1 := by omega
          have hk0 : (0 : Int) ≤ k + 1 := by omega
          clear htx
          have HEnv := Lib.hid HK.out.2.2.2
          go_wp2_with fail
          refine (HTX.out _).mono ?_
          rintro _ w14 ⟨rfl, hw14⟩
          obtain rfl : w13 = w14 := hw14.symm
          clear HTX q1 lq
          cases hat : atoiAll tx.data.toList with
          | ok v =>
            have hvb := atoiAll_bounds hat
            have hvi : ∀ i0, right i0 = true → text i0 = s.data.toList → v = i0.f j := fun i hi ht => by
              have := arg_read HS.out.1 HS.out.2.2.1 HPS.out.1 HPS.out.2.1 hi ht HLX.out HJ.out.1 HJ.out.2.1 HJ.out.2.2
              rw [← htxd, hat] at this
              exact NumEnd.ok.inj this
            have HV := Lib.hid (And.intro hvi hvb)
            have HC := Lib.hid (Tryd.strconv_Atoi_ok tx (by omega) v hat w13)
            clear hat htxd hvi hvb
            go_wp2_with fail
            refine HC.out.mono ?_
            rintro _ w15 ⟨rfl, hw15⟩
            have hk15 : Keep [] w13 w15 := by
              rcases hw15 with rfl | ⟨t, rfl⟩
              · exact Keep.refl _ _
              · exact Keep.ofBelow (Lib.bytesWorld_below w13 5 t) []
            have hD2 := HD1.out.new hk15
            have c0 := blk_cell hD2.opb HJ.out.2.1
            have f0 := free_of_ob hD2.opb j
            have lp := ob_lt hD2.opb
            have hj5' : (j : Int) < 5 := by omega
            have HD2 := Lib.hid hD2
            have H30 : Hid (∀ w, Calls Tryd.prog 30 #[.string ⟨#[95, 97, 98, 99, 105]⟩, .int .i32 (cc : Int)] w fun e w' => e = .returned (.int .i64 (j : Int)) ∧ w' = w) := Lib.hid (fun w => hidx ▸ Tryd.strings_IndexRune_ascii ⟨#[95, 97, 98, 99, 105]⟩ (cc : Int) w (by omega) (by omega))
            clear HC HD1 hk15 hw15 hD2 hidx
            go_wp2_with fail
            refine (H30.out _).mono ?_
            rintro _ w16 ⟨rfl, hw16⟩
            obtain rfl : w15 = w16 := hw16.symm
            go_wp2_with fail
            go_roundg (N - (k + 1))
            case measure => omega
            case rel =>
              obtain ⟨r0, r1, r2, r3⟩ := HREL.out
              have htk : (PS o).take (k + 1) = (PS o).take k ++ [j] := by rw [List.take_add_one, HJ.out.1]; rfl
              refine ⟨k + 1, updW p j v, by omega, rfl, HD2.out.put j v, ?_, fun j' => ?_, fun j' h1 h2 => ?_, fun i0 h1 h2 j' h3 => ?_⟩
              · unfold updW; rw [if_neg (by omega)]; exact r0
              · unfold updW; split
                · exact HV.out.2
                · exact r1 j'
              · rw [htk, List.mem_append, List.mem_singleton] at h2
                unfold updW
                rw [if_neg (fun e => h2 (.inr e))]
                exact r2 j' h1 (fun e => h2 (.inl e))
              · rw [htk, List.mem_append, List.mem_singleton] at h3
                unfold updW
                split
                · rename_i e
                  rw [e]
                  exact HV.out.1 i0 h1 h2
                · rename_i e
                  exact r3 i0 h1 h2 j' (h3.resolve_right e)
          | «syntax» =>
            have HD : Hid (decT s.data.toList = none) := Lib.hid (decT_none (fun i hi ht => by
              have := arg_read HS.out.1 HS.out.2.2.1 HPS.out.1 HPS.out.2.1 hi ht HLX.out HJ.out.1 HJ.out.2.1 HJ.out.2.2
              rw [← htxd, hat] at this
              cases this))
            obtain ⟨tp, pp, hvar⟩ := (HEnv.out.keep HD1.out.kp).syn
            have HC := Lib.hid (Tryd.strconv_Atoi_syntax_var tx (by omega) hat tp pp w13 hvar)
            clear hat hvar htxd
            go_wp2_with fail
            refine HC.out.mono ?_
            rintro _ w15 ⟨N9, rfl, -, -, hb15⟩
            have HD2 := Lib.hid (HD1.out.new (Keep.ofBelow hb15 []))
            have HRB : Hid (ob w15 rb = some (.cells (blk (vI fun _ => 0) 5) 23 (0, 0))) := Lib.hid HD2.out.orb
            have HKF := Lib.hid (HK.out.1.trans HD2.out.kp)
            clear HC hb15 HD1
            go_wp2_with (refine wpList_store_mid rfl 23 (.tmp 2) (.tmp 64) rfl rb 0 (blk (vI fun _ => 0) 5) rfl rfl (blk_there HRB.out (by rw [blk_size]; omega)) (by rw [size23, blk_size]) (blk_all _ _ (fun i _ => rfl)) ?_)
            refine bodyPost_ret (ret_row_tmp (P := Tryd.prog) Tryd.results10 (cs := blk (vI fun _ => 0) 5) (t := 23) (fr := (0, 0)) (g := rb) (store_blk HRB.out) rfl Tryd.underlying23 rfl (by rw [size23, blk_size])) rfl ?_
            exact ⟨HKF.out.setCells (.inr (by have := HRE.out; omega)) _ _, by rw [HD.out]; rfl⟩
          | range =>
            have HD : Hid (decT s.data.toList = none) := Lib.hid (decT_none (fun i hi ht => by
              have := arg_read HS.out.1 HS.out.2.2.1 HPS.out.1 HPS.out.2.1 hi ht HLX.out HJ.out.1 HJ.out.2.1 HJ.out.2.2
              rw [← htxd, hat] at this
              cases this))
            obtain ⟨tp, pp, hvar⟩ := (HEnv.out.keep HD1.out.kp).rng
            have HC := Lib.hid (Tryd.strconv_Atoi_range_var tx (by omega) hat tp pp w13 hvar)
            clear hat hvar htxd
            go_wp2_with fail
            refine HC.out.mono ?_
            rintro _ w15 ⟨N9, rfl, -, -, hb15⟩
            have HD2 := Lib.hid (HD1.out.new (Keep.ofBelow hb15 []))
            have HRB : Hid (ob w15 rb = some (.cells (blk (vI fun _ => 0) 5) 23 (0, 0))) := Lib.hid HD2.out.orb
            have HKF := Lib.hid (HK.out.1.trans HD2.out.kp)
            clear HC hb15 HD1
            go_wp2_with (refine wpList_store_mid rfl 23 (.tmp 2) (.tmp 64) rfl rb 0 (blk (vI fun _ => 0) 5) rfl rfl (blk_there HRB.out (by rw [blk_size]; omega)) (by rw [size23, blk_size]) (blk_all _ _ (fun i _ => rfl)) ?_)
            refine bodyPost_ret (ret_row_tmp (P := Tryd.prog) Tryd.results10 (cs := blk (vI fun _ => 0) 5) (t := 23) (fr := (0, 0)) (g := rb) (store_blk HRB.out) rfl Tryd.underlying23 rfl (by rw [size23, blk_size])) rfl ?_
            exact ⟨HKF.out.setCells (.inr (by have := HRE.out; omega)) _ _, by rw [HD.out]; rfl⟩
        · obtain rfl : k = N := by omega
          have hnd := fun ty => Lib.run_next_end_at (P := Tryd.prog) wr ib nb k ty hD.oib (by omega)
          have hPS : (PS o).take k = PS o := List.take_of_length_le (by rw [ps_len o HPS.out.1, HPS.out.2.2.2]; exact Nat.le_refl _)
          rw [hPS] at hpz hpi
          obtain ⟨I, hI⟩ : ∃ I : IN, I = ⟨p 0, p 1, p 2, p 3, p 4⟩ := ⟨_, rfl⟩
          have hIw : I.wf := fun q => by
            rw [hI]
            match q with
            | 0 => exact hpw 0
            | 1 => exact hpw 1
            | 2 => exact hpw 2
            | 3 => exact hpw 3
            | _ + 4 => exact hpw 4
          have hIi : ∀ i0, right i0 = true → text i0 = s.data.toList → I = i0 := fun i0 h1 h2 => by
            have hop := (op_of HS.out.2.2.1 HPS.out.1 HPS.out.2.1 h1 h2).1
            have hf : ∀ q, 0 < q → q < 5 → p q = i0.f q := fun q q0 q5 => by
              by_cases hm : q ∈ PS o
              · exact hpi i0 h1 h2 q hm
              · rw [hpz q q0 hm]
                refine (right_named h1 q0 q5 ?_).symm
                rw [hop, Int.toNat_natCast]
                cases hh : has o q with
                | false => rfl
                | true => exact absurd (by unfold PS; rw [List.mem_filter]; exact ⟨List.mem_range.2 q5, by unfold named; rw [hh]; simp; omega⟩) hm
            obtain ⟨a0, a1, a2, a3, a4⟩ := i0
            rw [hI]
            simp only [IN.mk.injEq]
            exact ⟨hp0.trans hop.symm, hf 1 (by omega) (by omega), hf 2 (by omega) (by omega), hf 3 (by omega) (by omega), hf 4 (by omega) (by omega)⟩
          have HI := Lib.hid (And.intro hI (And.intro hIw hIi))
          have HD9 := Lib.hid hD
          have hrg := range_ob hD.opb
          clear hI hIw hIi hpi hpz hpw hp0 hPS hD
          go_wp2_with (first
            | ((with_reducible refine at_load 44 7 ?_); refine wpList_load_mid rfl 44 (.tmp 7) rfl pb 0 rfl (blk (vI p) 5).toList _ hrg Tryd.underlying44 rfl (by rw [size44, blk_len]) ?_))
          refine (pJoin wr p).mono ?_
          rintro _ w15 ⟨rfl, hk15⟩
          rw [← HI.out.1]
          have HD10 := HD9.out.new hk15
          obtain ⟨x0, hx0⟩ : ∃ x, I.op = x := ⟨_, rfl⟩
          obtain ⟨x1, hx1⟩ : ∃ x, I.a = x := ⟨_, rfl⟩
          obtain ⟨x2, hx2⟩ : ∃ x, I.b = x := ⟨_, rfl⟩
          obtain ⟨x3, hx3⟩ : ∃ x, I.c = x := ⟨_, rfl⟩
          obtain ⟨x4, hx4⟩ : ∃ x, I.im = x := ⟨_, rfl⟩
          have hV : inV I = .agg #[.int .i64 x0, .int .i64 x1, .int .i64 x2, .int .i64 x3, .int .i64 x4] := by unfold inV; rw [hx0, hx1, hx2, hx3, hx4]
          have HIV := Lib.hid hV
          rw [hV]
          have HA2 := Lib.hid (And.intro (HD10.new ((Keep.refl _ _).alloc (.cells #[.int .i64 x0, .int .i64 x1, .int .i64 x2, .int .i64 x3, .int .i64 x4] 23))) (al_new w15 (.cells #[.int .i64 x0, .int .i64 x1, .int .i64 x2, .int .i64 x3, .int .i64 x4] 23) rfl))
          have HEnv := Lib.hid HK.out.2.2.2
          clear hnd hrg hk15 HD9 HD10 hV hx0 hx1 hx2 hx3 hx4
          go_wp2_with fail
          generalize w15.alloc (.cells #[.int .i64 x0, .int .i64 x1, .int .i64 x2, .int .i64 x3, .int .i64 x4] 23) = w16 at *
          generalize w15.heap.size = ci at *
          rw [← HIV.out]
          refine (pText w16 I HI.out.2.1 (HEnv.out.keep HA2.out.1.kp)).mono ?_
          rintro e w17 ⟨hk17, he⟩
          have HRB : Hid (ob w17 rb = some (.cells (blk (vI fun _ => 0) 5) 23 (0, 0))) := Lib.hid (hk17.kp HA2.out.1.orb (by simp))
          have HKF := Lib.hid (HK.out.1.trans (HA2.out.1.kp.trans hk17))
          have hci := hk17.kp HA2.out.2 (by simp)
          clear hk17
          cases hr : right I with
          | false =>
            have HD : Hid (decT s.data.toList = none) := Lib.hid (decT_none (fun i hi ht => by
              rw [← HI.out.2.2 i hi ht, hr] at hi
              cases hi))
            rw [hr] at he
            simp only [Bool.false_eq_true, if_false] at he
            subst he
            rw [HIV.out]
            clear hr hci
            go_wp2_with (refine wpList_store_mid rfl 23 (.tmp 2) (.tmp 83) rfl rb 0 (blk (vI fun _ => 0) 5) rfl rfl (blk_there HRB.out (by rw [blk_size]; omega)) (by rw [size23, blk_size]) (blk_all _ _ (fun i _ => rfl)) ?_)
            refine bodyPost_ret (ret_row_tmp (P := Tryd.prog) Tryd.results10 (cs := blk (vI fun _ => 0) 5) (t := 23) (fr := (0, 0)) (g := rb) (store_blk HRB.out) rfl Tryd.underlying23 rfl (by rw [size23, blk_size])) rfl ?_
            exact ⟨HKF.out.setCells (.inr (by have := HRE.out; omega)) _ _, by rw [HD.out]; rfl⟩
          | true =>
            have HR := Lib.hid hr
            rw [hr] at he
            simp only [if_true] at he
            subst he
            rw [HIV.out]
            clear hr
            by_cases hts : text I = s.data.toList
            · have HD : Hid (decT s.data.toList = some I) := Lib.hid (decT_some HR.out hts)
              have htb : toB (text I) = s := by unfold toB; rw [hts]
              rw [htb]
              have r0 := cell_of_ob hci 0
              have r1 := cell_of_ob hci 1
              have r2 := cell_of_ob hci 2
              have r3 := cell_of_ob hci 3
              have r4 := cell_of_ob hci 4
              have lc := ob_lt hci
              simp only [List.getElem?_toArray, List.getElem?_cons_zero, List.getElem?_cons_succ] at r0 r1 r2 r3 r4
              clear hts htb hci
              go_wp2_with (first | (go_at_call 999; fail) | (refine wpList_store_mid rfl 23 (.tmp 2) (.tmp 84) rfl rb 0 (blk (vI (fun q => if q = 0 then x0 else if q = 1 then x1 else if q = 2 then x2 else if q = 3 then x3 else x4)) 5) rfl rfl (blk_there HRB.out (by rw [blk_size]; omega)) (by rw [size23, blk_size]) (blk_all _ _ (fun i _ => rfl)) ?_))
              refine bodyPost_ret (ret_row_tmp (P := Tryd.prog) Tryd.results10 (cs := blk (vI (fun q => if q = 0 then x0 else if q = 1 then x1 else if q = 2 then x2 else if q = 3 then x3 else x4)) 5) (t := 23) (fr := (0, 0)) (g := rb) (store_blk HRB.out) rfl Tryd.underlying23 rfl (by rw [size23, blk_size])) rfl ?_
              exact ⟨HKF.out.setCells (.inr (by have := HRE.out; omega)) _ _, by rw [HD.out]; simp only [Option.getD_some]; rw [HIV.out]; rfl⟩
            · have HD : Hid (decT s.data.toList = none) := Lib.hid (decT_none (fun i hi ht => by
                rw [← HI.out.2.2 i hi ht] at ht
                exact hts ht))
              have hne2 : ((toB (text I)).toList == s.toList) = false := by
                rw [ByteArray.toList_eq, ByteArray.toList_eq]
                have : (toB (text I)).data.toList ≠ s.data.toList := hts
                simpa using this
              generalize toB (text I) = tb at *
              clear hts hci
              go_wp2_with (refine wpList_store_mid rfl 23 (.tmp 2) (.tmp 83) rfl rb 0 (blk (vI fun _ => 0) 5) rfl rfl (blk_there HRB.out (by rw [blk_size]; omega)) (by rw [size23, blk_size]) (blk_all _ _ (fun i _ => rfl)) ?_)
              refine bodyPost_ret (ret_row_tmp (P := Tryd.prog) Tryd.results10 (cs := blk (vI fun _ => 0) 5) (t := 23) (fr := (0, 0)) (g := rb) (store_blk HRB.out) rfl Tryd.underlying23 rfl (by rw [size23, blk_size])) rfl ?_
              exact ⟨HKF.out.setCells (.inr (by have := HRE.out; omega)) _ _, by rw [HD.out]; rfl⟩
    · have hNM' : ¬ (N : Int) = (M : Nat) := by omega
      have hNM2 : ((N : Int) != (M : Nat)) = true := by simp; omega
      have HD : Hid (decT s.data.toList = none) := Lib.hid (decT_none (fun i hi ht => by
        obtain ⟨h1, h2⟩ := op_of HS.out.2.2.1 HPS.out.1 HPS.out.2.1 hi ht
        have h3 := congrArg List.length HS.out.1
        rw [List.length_map, HS.out.2.1, HS.out.2.2.1, List.length_cons, h2, args_ps, List.length_map, h1, Int.toNat_natCast, ps_len o HPS.out.1, HPS.out.2.2.2] at h3
        omega))
      go_upto_region 4 with (first | (go_at_call 17; refine (pForms _).mono ?_; rintro _ w10 ⟨rfl, hk10⟩))
      have HRB : Hid (ob w10 rb = some (.cells (blk (vI fun _ => 0) 5) 23 (0, 0))) := Lib.hid ((HK9.out.2.trans hk10).kp HK.out.2.1 (by simp))
      have HKF := Lib.hid (HK9.out.1.trans hk10)
      clear hk10
      go_wp2_with (refine wpList_store_mid rfl 23 (.tmp 2) (.tmp 39) rfl rb 0 (blk (vI fun _ => 0) 5) rfl rfl (blk_there HRB.out (by rw [blk_size]; omega)) (by rw [size23, blk_size]) (blk_all _ _ (fun i _ => rfl)) ?_)
      refine bodyPost_ret (ret_row_tmp (P := Tryd.prog) Tryd.results10 (cs := blk (vI fun _ => 0) 5) (t := 23) (fr := (0, 0)) (g := rb) (store_blk HRB.out) rfl Tryd.underlying23 rfl (by rw [size23, blk_size])) rfl ?_
      exact ⟨HKF.out.setCells (.inr (by have := HRE.out; omega)) _ _, by rw [HD.out]; rfl⟩
  · have hmiss : ∀ o, o < 12 → wd o ≠ l0.data.toList := fun o ho he => hex ⟨o, ho, he⟩
    have HD : Hid (decT s.data.toList = none) := Lib.hid (none_of_head HS.out.2.2.1 hmiss)
    go_upto_region 2 with fail
    go_region_held3 (fun w' => w'.cell? ⟨lb, 0, none⟩ = some (.string l0) ∧ Keep [] w2 w') (first | exact ⟨q0, (Keep.refl _ _).drew⟩ | exact hq2 _ _ (by assumption) (by assumption) | go_keep)
      (first | (go_at_call 27; refine (pWords _).mono ?_; rintro _ w9 ⟨mb, rfl, hO9, hk9⟩; obtain ⟨x9, hl9⟩ := look_miss hO9 l0 hl0s hmiss))
    have hk29 := ‹_ ∧ Keep [] w2 _›.2
    have HRB : Hid (ob w9 rb = some (.cells (blk (vI fun _ => 0) 5) 23 (0, 0))) := Lib.hid (hk29.kp HK.out.2.1 (by simp))
    have HKF := Lib.hid (HK.out.1.trans hk29)
    clear hl9 hO9 hk9 hk29 hq2 q0
    go_wp2_with (refine wpList_store_mid rfl 23 (.tmp 2) (.tmp 39) rfl rb 0 (blk (vI fun _ => 0) 5) rfl rfl (blk_there HRB.out (by rw [blk_size]; omega)) (by rw [size23, blk_size]) (blk_all _ _ (fun i _ => rfl)) ?_)
    refine bodyPost_ret (ret_row_tmp (P := Tryd.prog) Tryd.results10 (cs := blk (vI fun _ => 0) 5) (t := 23) (fr := (0, 0)) (g := rb) (store_blk HRB.out) rfl Tryd.underlying23 rfl (by rw [size23, blk_size])) rfl ?_
    exact ⟨HKF.out.setCells (.inr (by have := HRE.out; omega)) _ _, by rw [HD.out]; rfl⟩
end Go.Proofs.YtajlpicdkdeceaaDoor
