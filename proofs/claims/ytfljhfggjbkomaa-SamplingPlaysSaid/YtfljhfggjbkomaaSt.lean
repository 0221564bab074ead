import Derived.Test.YtfljhfggjbkomaaSf
import Derived.Test.YtfljhfggjbkomaaSe
import Derived.Test.YtfljhfggjbkomaaLibO
namespace Go.Proofs.Ytfljhfggjbkomaa
open Go.RowKit
set_option linter.unusedSimpArgs false
set_option linter.unusedVariables false
attribute [local go_sem] ob_alloc ob_drew ob_drewN ob_setCell ob_setBlock objSet_cells obMap_map obClock_map isMapI_map keyI_mk findI_nil findI_cons lookRes_some lookRes_none lookRes_some' lookRes_none' setBlock_alloc mapPut

/-! ### one contract for each function, in every case -/
def wr (W : Int) (ws : List Int) (now : Int) (msg : Option (List Int × Int)) : Int × Option (List Int × Int) := if okW ws.length W now msg then (0, some (ws, now)) else (1, msg)
def rd (T now : Int) : Option (List Int × Int) → List Int × Bool × Int
  | none => ([], false, 2)
  | some (us, t) => if now < t then ([], false, 1) else (us, decide (now - t < T), 0)

theorem new_any (words ticks : Int) (w : World) : Calls Try.prog 33 #[.int .i64 words, .int .i64 ticks] w fun o w' => Keep [] w w' ∧
    if okN words ticks then ∃ p, o = .returned (.tuple #[.pointer (some ⟨p, 0, none⟩), .int .i64 0]) ∧ w.heap.size ≤ p ∧ p < w'.heap.size ∧ ∀ L, PortAt w' p L words ticks none else o = .returned (.tuple #[.pointer none, .int .i64 1]) := by
  cases h : okN words ticks with
  | true => exact (new_ok words ticks h w []).mono fun o w' ⟨h1, h2, h3, h4⟩ => ⟨h3, by simp; exact ⟨_, h1, by omega, by omega, fun L => h2⟩⟩
  | false => exact (new_no words ticks h w).mono fun o w' ⟨h1, h2⟩ => ⟨h2, by simpa using h1⟩
theorem refNew_any (words ticks : Int) (w : World) : Calls Try.prog 34 #[.int .i64 words, .int .i64 ticks] w fun o w' => Keep [] w w' ∧
    if okN words ticks then ∃ p, o = .returned (.tuple #[.pointer (some ⟨p, 0, none⟩), .int .i64 0]) ∧ w.heap.size ≤ p ∧ p < w'.heap.size ∧ ∀ L, RefAt w' p L words ticks none else o = .returned (.tuple #[.pointer none, .int .i64 1]) := by
  cases h : okN words ticks with
  | true => exact (refNew_ok words ticks h w []).mono fun o w' ⟨h1, h2, h3, h4⟩ => ⟨h3, by simp; exact ⟨_, h1, by omega, by omega, fun L => h2⟩⟩
  | false => exact (refNew_no words ticks h w).mono fun o w' ⟨h1, h2⟩ => ⟨h2, by simpa using h1⟩

theorem okW_out {n W now : Int} {msg : Option (List Int × Int)} (h : okW n W now msg = true) : 1 ≤ n ∧ n ≤ W ∧ 0 ≤ now := by
  cases msg <;> simp [okW] at h <;> omega

theorem write_any (w : World) (p : Nat) (L : List Nat) (W T : Int) (hp : p ∈ L) (hL : ∀ x, x ∈ L → x < w.heap.size) (msg : Option (List Int × Int)) (hP : PortAt w p L W T msg) (v : Value) (ws : List Int) (hv : RdU w v ws) (now : Int) (hW : W ≤ 16) :
    Calls Try.prog 35 #[.pointer (some ⟨p, 0, none⟩), v, .int .i64 now] w fun o w' => o = .returned (.int .i64 (wr W ws now msg).1) ∧ PortAt w' p L W T (wr W ws now msg).2 ∧ Keep [p] w w' := by
  cases h : okW ws.length W now msg with
  | true =>
    obtain ⟨h1, h2, h3⟩ := okW_out h
    cases msg with
    | none => simpa [wr, h] using write_ok_none w p L W T hp hL hP v ws hv now hW (by omega) h2 h3
    | some m =>
      obtain ⟨us, t⟩ := m
      simpa [wr, h] using write_ok_some w p L W T hp hL us t hP v ws hv now hW (by omega) h2 h3 (by simp [okW] at h; omega)
  | false => exact (write_no w p L W T msg hP v ws hv now h).mono fun o w' ⟨h1, h2⟩ => by subst h2; simp [wr, h, h1, hP, Keep.refl]
theorem refWrite_any (w : World) (p : Nat) (L : List Nat) (W T : Int) (hp : p ∈ L) (hL : ∀ x, x ∈ L → x < w.heap.size) (msg : Option (List Int × Int)) (hP : RefAt w p L W T msg) (v : Value) (ws : List Int) (hv : RdU w v ws) (now : Int) (hW : W ≤ 16) :
    Calls Try.prog 36 #[.pointer (some ⟨p, 0, none⟩), v, .int .i64 now] w fun o w' => o = .returned (.int .i64 (wr W ws now msg).1) ∧ RefAt w' p L W T (wr W ws now msg).2 ∧ Keep [p] w w' := by
  cases h : okW ws.length W now msg with
  | true =>
    obtain ⟨h1, h2, h3⟩ := okW_out h
    cases msg with
    | none => simpa [wr, h] using refWrite_ok_none w p L W T hp hL hP v ws hv now hW (by omega) h2 h3
    | some m =>
      obtain ⟨us, t⟩ := m
      simpa [wr, h] using refWrite_ok_some w p L W T hp hL us t hP v ws hv now hW (by omega) h2 h3 (by simp [okW] at h; omega)
  | false => exact (refWrite_no w p L W T msg hP v ws hv now h).mono fun o w' ⟨h1, h2⟩ => by subst h2; simp [wr, h, h1, hP, Keep.refl]

theorem read_any (w : World) (p : Nat) (L : List Nat) (W T now : Int) (hnow : now ≤ 9223372036854775807) (msg : Option (List Int × Int)) (hP : PortAt w p L W T msg) :
    Calls Try.prog 38 #[.pointer (some ⟨p, 0, none⟩), .int .i64 now] w fun o w' => ∃ v, o = .returned (.tuple #[v, .bool (rd T now msg).2.1, .int .i64 (rd T now msg).2.2]) ∧ RdU w' v (rd T now msg).1 ∧ Keep [] w w' := by
  cases msg with
  | none => exact (read_none w p L W T now hP).mono fun o w' ⟨h1, h2⟩ => ⟨_, h1, Rd.nil _, by subst h2; exact Keep.refl _ _⟩
  | some m =>
    obtain ⟨us, t⟩ := m
    by_cases h : now < t
    · simp only [rd, if_pos h]
      exact (read_early w p L W T now us t hP h).mono fun o w' ⟨h1, h2⟩ => ⟨_, h1, Rd.nil _, by subst h2; exact Keep.refl _ _⟩
    · simp only [rd, if_neg h]
      have hl : us.length ≤ 16 := by obtain ⟨_, _, _, _, _, _, _, _, h, _⟩ := hP; exact h
      exact (read_ok w p L W T now us t hP (by omega) hnow).mono fun o w' ⟨h1, h2, h3⟩ => ⟨_, h1, Rd.row h2 (u64s_length us) (Nat.le_refl _) (by unfold maxLen; omega) (List.take_of_length_le (by simp [u64s])), h3⟩
theorem refRead_any (w : World) (p : Nat) (L : List Nat) (W T now : Int) (hnow : now ≤ 9223372036854775807) (msg : Option (List Int × Int)) (hP : RefAt w p L W T msg) :
    Calls Try.prog 39 #[.pointer (some ⟨p, 0, none⟩), .int .i64 now] w fun o w' => ∃ v, o = .returned (.tuple #[v, .bool (rd T now msg).2.1, .int .i64 (rd T now msg).2.2]) ∧ RdU w' v (rd T now msg).1 ∧ Keep [] w w' := by
  cases msg with
  | none => exact (refRead_none w p L W T now hP).mono fun o w' ⟨h1, h2⟩ => ⟨_, h1, Rd.nil _, by subst h2; exact Keep.refl _ _⟩
  | some m =>
    obtain ⟨us, t⟩ := m
    by_cases h : now < t
    · simp only [rd, if_pos h]
      exact (refRead_early w p L W T now us t hP h).mono fun o w' ⟨h1, h2⟩ => ⟨_, h1, Rd.nil _, by subst h2; exact Keep.refl _ _⟩
    · simp only [rd, if_neg h]
      exact (refRead_ok w p L W T now us t hP (by omega) hnow).mono fun o w' ⟨v, h1, h2, h3⟩ => ⟨_, h1, Rd.own h2, h3⟩

/-- both ports, and the operation's own block -/
structure Both (w : World) (p r b : Nat) (W T d now : Int) (v : Value) (ws : List Int) (m1 m2 : Option (List Int × Int)) : Prop where
  port : PortAt w p [p, r] W T m1
  ref : RefAt w r [p, r] W T m2
  op : ob w b = some (.cells #[.int .i64 d, .int .i64 now, v] 56 (0, 0))
  rd : RdU w v ws
  ne : p ≠ r
  hp : p < w.heap.size
  hr : r < w.heap.size
  bp : b ≠ p
  br : b ≠ r
  wide : W ≤ 16
  ow : ∀ x, v.ownBlock = some x → 0 < ws.length → x ≠ p ∧ x ≠ r

theorem Both.write {w : World} {p r b : Nat} {W T d now : Int} {v : Value} {ws : List Int} {m1 m2 : Option (List Int × Int)} (h : Both w p r b W T d now v ws m1 m2) :
    Calls Try.prog 35 #[.pointer (some ⟨p, 0, none⟩), v, .int .i64 now] w fun o w' => o = .returned (.int .i64 (wr W ws now m1).1) ∧ Both w' p r b W T d now v ws (wr W ws now m1).2 m2 ∧ Keep [p, r] w w' := by
  refine (write_any w p [p, r] W T (by simp) (by simp [h.hp, h.hr]) m1 h.port v ws h.rd now h.wide).mono ?_
  rintro o w' ⟨h1, h2, h3⟩
  refine ⟨h1, ⟨h2, h.ref.keep h3 (by simp [h.ne.symm]) (by simp), h3.kp h.op (by simp [h.bp]), h.rd.keep h3 (fun x hx h0 => by simp [(h.ow x hx (by rwa [u64s_length] at h0)).1]), h.ne, Nat.lt_of_lt_of_le h.hp h3.size, Nat.lt_of_lt_of_le h.hr h3.size, h.bp, h.br, h.wide, h.ow⟩, h3.mono (by simp)⟩
theorem Both.refWrite {w : World} {p r b : Nat} {W T d now : Int} {v : Value} {ws : List Int} {m1 m2 : Option (List Int × Int)} (h : Both w p r b W T d now v ws m1 m2) :
    Calls Try.prog 36 #[.pointer (some ⟨r, 0, none⟩), v, .int .i64 now] w fun o w' => o = .returned (.int .i64 (wr W ws now m2).1) ∧ Both w' p r b W T d now v ws m1 (wr W ws now m2).2 ∧ Keep [p, r] w w' := by
  refine (refWrite_any w r [p, r] W T (by simp) (by simp [h.hp, h.hr]) m2 h.ref v ws h.rd now h.wide).mono ?_
  rintro o w' ⟨h1, h2, h3⟩
  refine ⟨h1, ⟨h.port.keep h3 (by simp [h.ne]) (by simp), h2, h3.kp h.op (by simp [h.br]), h.rd.keep h3 (fun x hx h0 => by simp [(h.ow x hx (by rwa [u64s_length] at h0)).2]), h.ne, Nat.lt_of_lt_of_le h.hp h3.size, Nat.lt_of_lt_of_le h.hr h3.size, h.bp, h.br, h.wide, h.ow⟩, h3.mono (by simp)⟩
theorem Both.keep {w w' : World} {p r b : Nat} {W T d now : Int} {v : Value} {ws : List Int} {m1 m2 : Option (List Int × Int)} (h : Both w p r b W T d now v ws m1 m2) (hk : Keep [] w w') : Both w' p r b W T d now v ws m1 m2 :=
  ⟨h.port.keep hk (by simp) (by simp), h.ref.keep hk (by simp) (by simp), hk.kp h.op (by simp), h.rd.keep hk (by simp), h.ne, Nat.lt_of_lt_of_le h.hp hk.size, Nat.lt_of_lt_of_le h.hr hk.size, h.bp, h.br, h.wide, h.ow⟩
theorem Both.read {w : World} {p r b : Nat} {W T d now : Int} {v : Value} {ws : List Int} {m1 m2 : Option (List Int × Int)} (h : Both w p r b W T d now v ws m1 m2) (hnow : now ≤ 9223372036854775807) :
    Calls Try.prog 38 #[.pointer (some ⟨p, 0, none⟩), .int .i64 now] w fun o w' => ∃ v', o = .returned (.tuple #[v', .bool (Go.Proofs.Ytfljhfggjbkomaa.rd T now m1).2.1, .int .i64 (Go.Proofs.Ytfljhfggjbkomaa.rd T now m1).2.2]) ∧ RdU w' v' (Go.Proofs.Ytfljhfggjbkomaa.rd T now m1).1 ∧ Both w' p r b W T d now v ws m1 m2 ∧ Keep [] w w' :=
  (read_any w p [p, r] W T now hnow m1 h.port).mono fun o w' ⟨v', h1, h2, h3⟩ => ⟨v', h1, h2, h.keep h3, h3⟩
theorem Both.refRead {w : World} {p r b : Nat} {W T d now : Int} {v : Value} {ws : List Int} {m1 m2 : Option (List Int × Int)} (h : Both w p r b W T d now v ws m1 m2) (hnow : now ≤ 9223372036854775807) :
    Calls Try.prog 39 #[.pointer (some ⟨r, 0, none⟩), .int .i64 now] w fun o w' => ∃ v', o = .returned (.tuple #[v', .bool (Go.Proofs.Ytfljhfggjbkomaa.rd T now m2).2.1, .int .i64 (Go.Proofs.Ytfljhfggjbkomaa.rd T now m2).2.2]) ∧ RdU w' v' (Go.Proofs.Ytfljhfggjbkomaa.rd T now m2).1 ∧ Both w' p r b W T d now v ws m1 m2 ∧ Keep [] w w' :=
  (refRead_any w r [p, r] W T now hnow m2 h.ref).mono fun o w' ⟨v', h1, h2, h3⟩ => ⟨v', h1, h2, h.keep h3, h3⟩
theorem Both.scrub {w : World} {p r b : Nat} {W T d now : Int} {v : Value} {ws : List Int} {m1 m2 : Option (List Int × Int)} (h : Both w p r b W T d now v ws m1 m2) :
    Calls Try.prog 37 #[.pointer (some ⟨p, 0, none⟩)] w fun o w' => o = .returned (.tuple #[]) ∧ Both w' p r b W T d now v ws none m2 ∧ Keep [p, r] w w' := by
  refine (scrub_any w p [p, r] W T m1 h.port).mono ?_
  rintro o w' ⟨h1, h2, h3⟩
  refine ⟨h1, ⟨h2, h.ref.keep h3 (by simp [h.ne.symm]) (by simp), h3.kp h.op (by simp [h.bp]), h.rd.keep h3 (fun x hx h0 => by simp [(h.ow x hx (by rwa [u64s_length] at h0)).1]), h.ne, Nat.lt_of_lt_of_le h.hp h3.size, Nat.lt_of_lt_of_le h.hr h3.size, h.bp, h.br, h.wide, h.ow⟩, h3.mono (by simp)⟩
theorem RefAt.cells {w : World} {p : Nat} {L : List Nat} {W T : Int} {msg : Option (List Int × Int)} (h : RefAt w p L W T msg) : ∃ q1 q2 q3, ob w p = some (.cells #[.int .i64 W, .int .i64 T, q1, q2, q3] 59 (0, 0)) := by
  cases msg with
  | none => exact ⟨_, _, _, h⟩
  | some m => obtain ⟨us, t⟩ := m; obtain ⟨v, _, h, _⟩ := h; exact ⟨_, _, _, h⟩
theorem Both.reset {w : World} {p r b : Nat} {W T d now : Int} {v : Value} {ws : List Int} {m1 m2 : Option (List Int × Int)} (h : Both w p r b W T d now v ws m1 m2) :
    Both (((w.setCell ⟨r, 2, none⟩ (.slice none 0 0)).setCell ⟨r, 3, none⟩ (.int .i64 0)).setCell ⟨r, 4, none⟩ (.bool false)) p r b W T d now v ws m1 none := by
  obtain ⟨q1, q2, q3, hr⟩ := h.ref.cells
  have h3 : Keep [r] w (((w.setCell ⟨r, 2, none⟩ (.slice none 0 0)).setCell ⟨r, 3, none⟩ (.int .i64 0)).setCell ⟨r, 4, none⟩ (.bool false)) :=
    (((Keep.refl [r] w).setCell (.inl (by simp)) _ _).setCell (.inl (by simp)) _ _).setCell (.inl (by simp)) _ _
  exact ⟨h.port.keep h3 (by simp [h.ne]) (by simp), st_same (st_same (st_same hr)), h3.kp h.op (by simp [h.br]), h.rd.keep h3 (fun x hx h0 => by simp [(h.ow x hx (by rwa [u64s_length] at h0)).2]), h.ne, Nat.lt_of_lt_of_le h.hp h3.size, Nat.lt_of_lt_of_le h.hr h3.size, h.bp, h.br, h.wide, h.ow⟩
end Go.Proofs.Ytfljhfggjbkomaa
