import Derived.Test.YtjiienoflgolpaaQf
namespace Go.Proofs.Ytjiienoflgolpaa
open Go.RowKit
set_option linter.unusedSimpArgs false
set_option linter.unusedVariables false
open Go.Conc
attribute [local go_sem] ob_alloc ob_drew ob_drewN ob_setCell ob_setBlock objSet_cells obMap_map obClock_map isMapI_map keyI_mk findI_nil findI_cons lookRes_some lookRes_none lookRes_some' lookRes_none' setBlock_alloc mapPut

set_option maxRecDepth 100000 in
set_option maxHeartbeats 400000 in
theorem rTake_no (w : World) (r many : Nat) (words : Int) (lo : Nat) (h : RPort w r many words lo []) :
    Calls Try.prog 19 #[.pointer (some ⟨r, 0, none⟩)] w fun e w' => e = .returned (.tuple #[.slice none 0 0, .int .i64 2]) ∧ w = w' := by
  obtain ⟨v, ho, hv, _⟩ := h.hr
  obtain ⟨va, vc, rfl, _⟩ := hv.len
  simp only [List.length_nil] at ho
  have c2 := cell_of_ob ho 2
  simp only [List.getElem?_toArray, List.getElem?_cons_zero, List.getElem?_cons_succ] at c2
  clear h ho hv
  go_enter Try.func19, Try.ntmps19
  go_wp2
  go_ret2
  exact ⟨rfl, rfl⟩
set_option maxRecDepth 100000 in
set_option maxHeartbeats 800000 in
theorem rTake_yes (w : World) (r many : Nat) (words : Int) (lo : Nat) (u : Value) (rest : List Value) (h : RPort w r many words lo (u :: rest)) :
    Calls Try.prog 19 #[.pointer (some ⟨r, 0, none⟩)] w fun e w' => e = .returned (.tuple #[u, .int .i64 0]) ∧ RPort w' r many words lo rest ∧ Keep [r] w w' := by
  obtain ⟨v, ho, hv, hvb⟩ := h.hr
  obtain ⟨b, off, cap, rfl, hn1, hn2, hcell⟩ := hv.pos (by simp)
  have d0 := hcell 0 u rfl
  rw [Nat.add_zero] at d0
  have HC := Lib.hid (And.intro hcell (And.intro hvb (And.intro h.one h.rl)))
  have c0 := cell_of_ob ho 0
  have c1 := cell_of_ob ho 1
  have c2 := cell_of_ob ho 2
  have f2 := free_of_ob ho 2
  obtain ⟨k, hk⟩ : ∃ k, rest.length = k := ⟨_, rfl⟩
  simp only [List.getElem?_toArray, List.getElem?_cons_zero, List.getElem?_cons_succ, List.length_cons, hk] at c0 c1 c2 hn1
  simp only [List.length_cons, hk] at ho
  have HO := Lib.hid ho
  have HK := Lib.hid hk
  have hlo := hvb b rfl
  have hrb : b ≠ r := by have := h.rl; omega
  unfold maxLen at hn2
  clear h hv hcell hvb ho hk
  by_cases hcap : cap = 1
  · subst hcap
    obtain rfl : k = 0 := by omega
    go_enter Try.func19, Try.ntmps19
    go_wp2
    go_ret2
    obtain ⟨hcell, hvb, hone, hrl⟩ := HC.out
    have hre : rest = [] := List.eq_nil_of_length_eq_zero HK.out
    subst hre
    exact ⟨rfl, ⟨⟨_, (st_same HO.out).trans rfl, .inr ⟨_, 0, rfl, by simp, by simp, fun i x hi => by simp at hi⟩, hvb⟩, by simp, hrl⟩, (Keep.refl [r] w).setCell (.inl (by simp)) 2 _⟩
  · have hcap2 : 1 < cap := by omega
    go_enter Try.func19, Try.ntmps19
    go_wp2
    go_ret2
    obtain ⟨hcell, hvb, hone, hrl⟩ := HC.out
    have hkS : Keep [r] w (w.setCell ⟨r, 2, none⟩ (.slice (some ⟨b, off + 1, none⟩) k (cap - 1))) := (Keep.refl [r] w).setCell (.inl (by simp)) 2 _
    have hrd : Rd w (.slice (some ⟨b, off + 1, none⟩) k (cap - 1)) rest := .inr ⟨_, cap - 1, by rw [HK.out], by have := HK.out; omega, by unfold maxLen; omega, fun i x hi => by
      rw [add_mk, show off + 1 + i = off + (i + 1) by omega]
      exact hcell (i + 1) x (by simpa using hi)⟩
    exact ⟨rfl, ⟨⟨_, (st_same HO.out).trans rfl, hrd.keep hkS (fun b' hb' _ => by simp [Value.ownBlock] at hb'; subst hb'; simp; exact hrb), fun b' hb' => hvb b' (by simpa [Value.ownBlock] using hb')⟩, fun x hx => hone x (List.mem_cons_of_mem _ hx), hrl⟩, hkS⟩

/-! ### the two together -/
def Own (w : World) (lo : Nat) (v : Value) (x : List Int) : Prop := ∃ B, lo < B ∧ w.ownsRow B 44 1 v x.length (u64s x)
theorem Own.keep {w w' : World} {lo : Nat} {v : Value} {x : List Int} {S : List Nat} (h : Own w lo v x) (hk : Keep S w w') (hS : ∀ y, y ∈ S → y ≤ lo) : Own w' lo v x := by
  obtain ⟨B, hB, ho⟩ := h
  exact ⟨B, hB, owns_keep ho hk (fun b hb hm => by have := ownBlock_ge ho hb; have := hS b hm; omega)⟩
theorem Own.rd {w : World} {lo : Nat} {v : Value} {x : List Int} (h : Own w lo v x) : RdU w v x := by
  obtain ⟨B, _, ho⟩ := h
  exact Rd.own ho
theorem Own.one {w : World} {lo : Nat} {v : Value} {x : List Int} (h : Own w lo v x) : ∃ a cap, v = .slice a x.length cap := by
  obtain ⟨B, _, ho⟩ := h
  exact owns_slice ho
structure QP (W0 w : World) (p c r m : Nat) (n : Int) (lo : Nat) (kn : List (Nat × Obj)) (M1 M2 : List (List Int)) : Prop where
  ex : ∃ ps rs : List (Value × List Int), PO W0 w p c m n (ps.map (·.1)) ∧ RPort w r m n lo (rs.map (·.1)) ∧ ps.map (·.2) = M1 ∧ rs.map (·.2) = M2 ∧ (∀ e ∈ ps, Own w lo e.1 e.2) ∧ (∀ e ∈ rs, Own w lo e.1 e.2)
  ow : ∀ x, x ∈ kn → ob w x.1 = some x.2 ∧ x.1 ≠ c ∧ x.1 ≠ r
  pr : p ≠ r
  cr : c ≠ r
  cl : c ≤ lo
  ll : lo < w.heap.size
  r0 : W0.heap.size ≤ r
  m16 : m ≤ 16
  l2 : M2.length ≤ m
section
variable {W0 w w' : World} {p c r m lo : Nat} {n : Int} {kn : List (Nat × Obj)} {M1 M2 : List (List Int)}
theorem QP.kp (h : QP W0 w p c r m n lo kn M1 M2) : Keep [] W0 w := by obtain ⟨ps, rs, h1, _⟩ := h.ex; exact h1.kp
theorem QP.rle (h : QP W0 w p c r m n lo kn M1 M2) : r ≤ lo := by obtain ⟨ps, rs, _, h2, _⟩ := h.ex; exact h2.rl
theorem QP.new (h : QP W0 w p c r m n lo kn M1 M2) (hk : Keep [] w w') : QP W0 w' p c r m n lo kn M1 M2 := by
  obtain ⟨ps, rs, h1, h2, h3, h4, h5, h6⟩ := h.ex
  exact ⟨⟨ps, rs, h1.new hk, h2.keep hk (by simp) (by simp), h3, h4, fun e he => (h5 e he).keep hk (by simp), fun e he => (h6 e he).keep hk (by simp)⟩, fun x hx => ⟨hk.kp (h.ow x hx).1 (by simp), (h.ow x hx).2⟩, h.pr, h.cr, h.cl, Nat.lt_of_lt_of_le h.ll hk.size, h.r0, h.m16, h.l2⟩
theorem QP.drew (h : QP W0 w p c r m n lo kn M1 M2) : QP W0 w.drew p c r m n lo kn M1 M2 := h.new (Keep.refl _ _).drew
theorem QP.obk (h : QP W0 w p c r m n lo kn M1 M2) {b : Nat} {o : Obj} (hb : (b, o) ∈ kn) : Go.Proofs.Ytjiienoflgolpaa.ob w b = some o := (h.ow _ hb).1
theorem QP.dropk (h : QP W0 w p c r m n lo kn M1 M2) {kn' : List (Nat × Obj)} (hkn : ∀ x, x ∈ kn' → x ∈ kn) : QP W0 w p c r m n lo kn' M1 M2 := ⟨h.ex, fun x hx => h.ow x (hkn x hx), h.pr, h.cr, h.cl, h.ll, h.r0, h.m16, h.l2⟩
theorem QP.alloc (h : QP W0 w p c r m n lo kn M1 M2) (cs : Array Value) (t : TypeId) : QP W0 (w.alloc (.cells cs t)) p c r m n lo ((w.heap.size, .cells cs t (0, 0)) :: kn) M1 M2 := by
  have h3 := h.new ((Keep.refl [] w).alloc (.cells cs t))
  have h4 := h.cl
  have h5 := h.ll
  have h6 := h.rle
  exact ⟨h3.ex, fun x hx => by
    rcases List.mem_cons.1 hx with rfl | hx
    · exact ⟨al_new _ _ rfl, by show w.heap.size ≠ c; omega, by show w.heap.size ≠ r; omega⟩
    · exact h3.ow x hx, h3.pr, h3.cr, h3.cl, h3.ll, h3.r0, h3.m16, h3.l2⟩
def sendR (m : Nat) (n : Int) (L k : Nat) : Int := if k < 1 ∨ n < (k : Int) then 1 else if L < m then 0 else 3
def sendM (m : Nat) (n : Int) (M : List (List Int)) (x : List Int) : List (List Int) := if x.length < 1 ∨ n < (x.length : Int) then M else if M.length < m then M ++ [x] else M
theorem QP.send (h : QP W0 w p c r m n lo kn M1 M2) {a : Option Addr} {cap : Nat} {x : List Int} {k : Nat} (hx : RdU w (.slice a k cap) x) (hk : x.length = k) (hk2 : k ≤ 1000000) :
    Calls Try.prog 16 #[.pointer (some ⟨p, 0, none⟩), .slice a k cap] w fun e w' => e = .returned (.int .i64 (sendR m n M1.length k)) ∧ QP W0 w' p c r m n lo kn (sendM m n M1 x) M2 ∧ Keep [c] w w' := by
  obtain ⟨ps, rs, h1, h2, h3, h4, h5, h6⟩ := h.ex
  unfold sendR sendM
  rw [hk]
  by_cases hb : k < 1 ∨ n < (k : Int)
  · rw [if_pos hb, if_pos hb]
    exact (qSend_bad w p c m n _ h1.pb a k cap hb (by unfold maxLen; omega)).mono fun e w' ⟨g1, g2⟩ => ⟨g1, by rw [← g2]; exact ⟨h, Keep.refl _ _⟩⟩
  · rw [if_neg hb, if_neg hb]
    have hl : (ps.map (·.1)).length = M1.length := by rw [← h3]; simp
    by_cases hm : M1.length < m
    · rw [if_pos hm, if_pos hm]
      refine (qSend_ok w p c m n _ h1.pb a k cap x hx (by omega) (by omega) hk2 (by rw [hl]; exact hm)).mono ?_
      rintro e w' ⟨g1, v', g2, g3, g4⟩
      have hc : ∀ y, y ∈ [c] → y ≤ lo := by intro y hy; simp at hy; have := h.cl; omega
      refine ⟨g1, ⟨⟨ps ++ [(v', x)], rs, by rw [List.map_append]; exact h1.byC g2 g4, h2.keep g4 (by simp; exact h.cr.symm) hc, by rw [List.map_append, h3]; rfl, h4, fun e he => ?_, fun e he => (h6 e he).keep g4 hc⟩, fun x hx => ⟨g4.kp (h.ow x hx).1 (by simp; exact (h.ow x hx).2.1), (h.ow x hx).2⟩, h.pr, h.cr, h.cl, Nat.lt_of_lt_of_le h.ll g4.size, h.r0, h.m16, h.l2⟩, g4⟩
      rcases List.mem_append.1 he with he | he
      · exact (h5 e he).keep g4 hc
      · simp at he; subst he
        exact ⟨_, h.ll, by rw [hk]; exact g3⟩
    · rw [if_neg hm, if_neg hm]
      exact (qSend_full w p c m n _ h1.pb a k cap x hx (by omega) (by omega) hk2 (by have := h1.pb.le; omega)).mono fun e w' ⟨g1, g2, g3⟩ => ⟨g1, h.new g3, g3.mono (by simp)⟩
theorem sendM_le {m : Nat} {n : Int} {M : List (List Int)} {x : List Int} (h : M.length ≤ m) : (sendM m n M x).length ≤ m := by
  unfold sendM
  split
  · exact h
  · split
    · simp; omega
    · exact h
theorem QP.rsend (h : QP W0 w p c r m n lo kn M1 M2) {a : Option Addr} {cap : Nat} {x : List Int} {k : Nat} (hx : RdU w (.slice a k cap) x) (hk : x.length = k) (hk2 : k ≤ 1000000) :
    Calls Try.prog 17 #[.pointer (some ⟨r, 0, none⟩), .slice a k cap] w fun e w' => e = .returned (.int .i64 (sendR m n M2.length k)) ∧ QP W0 w' p c r m n lo kn M1 (sendM m n M2 x) ∧ Keep [r] w w' := by
  have hle := sendM_le (n := n) (x := x) h.l2
  obtain ⟨ps, rs, h1, h2, h3, h4, h5, h6⟩ := h.ex
  unfold sendR
  unfold sendM at hle ⊢
  rw [hk] at hle ⊢
  have hl : (rs.map (·.1)).length = M2.length := by rw [← h4]; simp
  by_cases hb : k < 1 ∨ n < (k : Int)
  · rw [if_pos hb, if_pos hb]
    exact (rSend_bad w r m n lo _ h2 a k cap hb (by unfold maxLen; omega)).mono fun e w' ⟨g1, g2⟩ => ⟨g1, by rw [← g2]; exact ⟨h, Keep.refl _ _⟩⟩
  · rw [if_neg hb] at hle ⊢
    rw [if_neg hb]
    by_cases hm : M2.length < m
    · rw [if_pos hm] at hle ⊢
      rw [if_pos hm]
      refine (rSend_ok w r m n lo _ h2 a k cap x hx (by omega) (by omega) hk2 (by rw [hl]; exact hm) h.m16 h.ll).mono ?_
      rintro e w' ⟨g1, v', g2, g3, g4⟩
      have hc : ∀ y, y ∈ [r] → y ≤ lo := by intro y hy; simp at hy; have := h.rle; omega
      refine ⟨g1, ⟨⟨ps, rs ++ [(v', x)], ⟨h1.pb.keep g4 (by simp; exact h.pr) (by simp; exact h.cr), h1.kp.andThen g4 (by intro y hy; simp at hy; have := h.r0; omega), h1.p0, h1.c0⟩, by rw [List.map_append]; exact g2, h3, by rw [List.map_append, h4]; rfl, fun e he => (h5 e he).keep g4 hc, fun e he => ?_⟩, fun x hx => ⟨g4.kp (h.ow x hx).1 (by simp; exact (h.ow x hx).2.2), (h.ow x hx).2⟩, h.pr, h.cr, h.cl, Nat.lt_of_lt_of_le h.ll g4.size, h.r0, h.m16, hle⟩, g4⟩
      rcases List.mem_append.1 he with he | he
      · exact (h6 e he).keep g4 hc
      · simp at he; subst he
        exact ⟨_, h.ll, by rw [hk]; exact g3⟩
    · rw [if_neg hm, if_neg hm]
      exact (rSend_full w r m n lo _ h2 a k cap (by omega) (by omega) hk2 (by have := h.l2; omega) h.m16).mono fun e w' ⟨g1, g3⟩ => ⟨g1, h.new g3, g3.mono (by simp)⟩
theorem QP.take_no (h : QP W0 w p c r m n lo kn [] M2) : Calls Try.prog 18 #[.pointer (some ⟨p, 0, none⟩)] w fun e w' => e = .returned (.tuple #[.slice none 0 0, .int .i64 2]) ∧ w = w' := by
  obtain ⟨ps, rs, h1, h2, h3, h4, h5, h6⟩ := h.ex
  have hp : ps = [] := by simpa using h3
  subst hp
  exact qTake_no w p c m n h1.pb
theorem QP.rtake_no (h : QP W0 w p c r m n lo kn M1 []) : Calls Try.prog 19 #[.pointer (some ⟨r, 0, none⟩)] w fun e w' => e = .returned (.tuple #[.slice none 0 0, .int .i64 2]) ∧ w = w' := by
  obtain ⟨ps, rs, h1, h2, h3, h4, h5, h6⟩ := h.ex
  have hp : rs = [] := by simpa using h4
  subst hp
  exact rTake_no w r m n lo h2
theorem QP.take_yes {x : List Int} {T : List (List Int)} (h : QP W0 w p c r m n lo kn (x :: T) M2) : Calls Try.prog 18 #[.pointer (some ⟨p, 0, none⟩)] w fun e w' => ∃ v, e = .returned (.tuple #[v, .int .i64 0]) ∧ Own w' lo v x ∧ QP W0 w' p c r m n lo kn T M2 ∧ Keep [c] w w' := by
  obtain ⟨ps, rs, h1, h2, h3, h4, h5, h6⟩ := h.ex
  obtain ⟨⟨v, x'⟩, ps', rfl⟩ : ∃ e ps', ps = e :: ps' := by
    cases ps with
    | nil => simp at h3
    | cons a b => exact ⟨a, b, rfl⟩
  simp only [List.map_cons, List.cons.injEq] at h3
  obtain ⟨rfl, rfl⟩ := h3
  refine (qTake_yes w p c m n v _ h1.pb).mono ?_
  rintro e w' ⟨g1, g2, g4⟩
  have hc : ∀ y, y ∈ [c] → y ≤ lo := by intro y hy; simp at hy; have := h.cl; omega
  exact ⟨v, g1, (h5 _ (List.mem_cons_self)).keep g4 hc, ⟨⟨ps', rs, h1.byC g2 g4, h2.keep g4 (by simp; exact h.cr.symm) hc, rfl, h4, fun e he => (h5 e (List.mem_cons_of_mem _ he)).keep g4 hc, fun e he => (h6 e he).keep g4 hc⟩, fun x hx => ⟨g4.kp (h.ow x hx).1 (by simp; exact (h.ow x hx).2.1), (h.ow x hx).2⟩, h.pr, h.cr, h.cl, Nat.lt_of_lt_of_le h.ll g4.size, h.r0, h.m16, h.l2⟩, g4⟩
theorem QP.rtake_yes {x : List Int} {T : List (List Int)} (h : QP W0 w p c r m n lo kn M1 (x :: T)) : Calls Try.prog 19 #[.pointer (some ⟨r, 0, none⟩)] w fun e w' => ∃ v, e = .returned (.tuple #[v, .int .i64 0]) ∧ Own w' lo v x ∧ QP W0 w' p c r m n lo kn M1 T ∧ Keep [r] w w' := by
  obtain ⟨ps, rs, h1, h2, h3, h4, h5, h6⟩ := h.ex
  obtain ⟨⟨v, x'⟩, rs', rfl⟩ : ∃ e rs', rs = e :: rs' := by
    cases rs with
    | nil => simp at h4
    | cons a b => exact ⟨a, b, rfl⟩
  simp only [List.map_cons, List.cons.injEq] at h4
  obtain ⟨rfl, rfl⟩ := h4
  refine (rTake_yes w r m n lo v _ h2).mono ?_
  rintro e w' ⟨g1, g2, g4⟩
  have hc : ∀ y, y ∈ [r] → y ≤ lo := by intro y hy; simp at hy; have := h.rle; omega
  exact ⟨v, g1, (h6 _ (List.mem_cons_self)).keep g4 hc, ⟨⟨ps, rs', ⟨h1.pb.keep g4 (by simp; exact h.pr) (by simp; exact h.cr), h1.kp.andThen g4 (by intro y hy; simp at hy; have := h.r0; omega), h1.p0, h1.c0⟩, g2, h3, rfl, fun e he => (h5 e he).keep g4 hc, fun e he => (h6 e (List.mem_cons_of_mem _ he)).keep g4 hc⟩, fun x hx => ⟨g4.kp (h.ow x hx).1 (by simp; exact (h.ow x hx).2.2), (h.ow x hx).2⟩, h.pr, h.cr, h.cl, Nat.lt_of_lt_of_le h.ll g4.size, h.r0, h.m16, by have := h.l2; simp at this ⊢; omega⟩, g4⟩
theorem QP.drain (h : QP W0 w p c r m n lo kn M1 M2) : Calls Try.prog 21 #[.pointer (some ⟨p, 0, none⟩)] w fun e w' => e = .returned (.int .i64 (M1.length : Nat)) ∧ QP W0 w' p c r m n lo kn [] M2 ∧ Keep [c] w w' := by
  obtain ⟨ps, rs, h1, h2, h3, h4, h5, h6⟩ := h.ex
  have hl : (ps.map (·.1)).length = M1.length := by rw [← h3]; simp
  refine (qDrain w p c m n _ h1.pb (by have := h1.pb.le; have := h.m16; omega)).mono ?_
  rintro e w' ⟨g1, g2, g4⟩
  have hc : ∀ y, y ∈ [c] → y ≤ lo := by intro y hy; simp at hy; have := h.cl; omega
  exact ⟨by rw [← hl]; exact g1, ⟨⟨[], rs, h1.byC g2 g4, h2.keep g4 (by simp; exact h.cr.symm) hc, rfl, h4, by simp, fun e he => (h6 e he).keep g4 hc⟩, fun x hx => ⟨g4.kp (h.ow x hx).1 (by simp; exact (h.ow x hx).2.1), (h.ow x hx).2⟩, h.pr, h.cr, h.cl, Nat.lt_of_lt_of_le h.ll g4.size, h.r0, h.m16, h.l2⟩, g4⟩
theorem QP.len (h : QP W0 w p c r m n lo kn M1 M2) : Calls Try.prog 22 #[.pointer (some ⟨p, 0, none⟩)] w fun e w' => e = .returned (.int .i64 (M1.length : Nat)) ∧ w' = w := by
  obtain ⟨ps, rs, h1, h2, h3, h4, h5, h6⟩ := h.ex
  have hl : (ps.map (·.1)).length = M1.length := by rw [← h3]; simp
  rw [← hl]
  exact qLenQ w p c m n _ h1.pb
/-- the reference's struct -/
theorem QP.cell (h : QP W0 w p c r m n lo kn M1 M2) : ∃ va vc, ob w r = some (.cells #[.int .i64 m, .int .i64 n, .slice va M2.length vc] 41 (0, 0)) := by
  obtain ⟨ps, rs, h1, h2, h3, h4, h5, h6⟩ := h.ex
  obtain ⟨v, ho, hv, _⟩ := h2.hr
  obtain ⟨va, vc, rfl, _⟩ := hv.len
  refine ⟨va, vc, ?_⟩
  rw [← h4, List.length_map]
  rw [List.length_map] at ho
  exact ho
/-- the reference forgets all -/
theorem QP.rclear (h : QP W0 w p c r m n lo kn M1 M2) : QP W0 (w.setCell ⟨r, 2, none⟩ (.slice none 0 0)) p c r m n lo kn M1 [] := by
  obtain ⟨va, vc, ho⟩ := h.cell
  obtain ⟨ps, rs, h1, h2, h3, h4, h5, h6⟩ := h.ex
  have g4 : Keep [r] w (w.setCell ⟨r, 2, none⟩ (.slice none 0 0)) := (Keep.refl [r] w).setCell (.inl (by simp)) 2 _
  have hc : ∀ y, y ∈ [r] → y ≤ lo := by intro y hy; simp at hy; have := h.rle; omega
  exact ⟨⟨ps, [], ⟨h1.pb.keep g4 (by simp; exact h.pr) (by simp; exact h.cr), h1.kp.andThen g4 (by intro y hy; simp at hy; have := h.r0; omega), h1.p0, h1.c0⟩, ⟨⟨_, (st_same ho).trans rfl, Rd.nil _, fun b hb => by cases hb⟩, by simp, h2.rl⟩, h3, rfl, fun e he => (h5 e he).keep g4 hc, by simp⟩, fun x hx => ⟨g4.kp (h.ow x hx).1 (by simp; exact (h.ow x hx).2.2), (h.ow x hx).2⟩, h.pr, h.cr, h.cl, Nat.lt_of_lt_of_le h.ll g4.size, h.r0, h.m16, by simp⟩
end
end Go.Proofs.Ytjiienoflgolpaa
