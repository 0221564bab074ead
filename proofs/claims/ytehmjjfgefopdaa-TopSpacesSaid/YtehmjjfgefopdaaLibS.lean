/- Lemmas on slices: a slice that is read as a list of cells; copies and appends in one equation each; rows of the call's own. -/
import Derived.Test.YtehmjjfgefopdaaLib
import Derived.Laws.CopyOwn
import Derived.OwnWalk
import Derived.Deep.OwnRows
import Derived.Deep.RegionLaw
namespace Go.Proofs.Ytehmjjfgefopdaa
open Go.RowKit

theorem add_mk (b off i : Nat) : (⟨b, off, none⟩ : Addr).add i = ⟨b, off + i, none⟩ := by unfold Addr.add; split <;> simp_all

/-- v is a slice whose elements take one cell each, and reads as xs -/
def Rd (w : World) (v : Value) (xs : List Value) : Prop :=
  (v = .slice none 0 0 ∧ xs = []) ∨ ∃ a cap, v = .slice (some a) xs.length cap ∧ xs.length ≤ cap ∧ cap ≤ maxLen ∧ ∀ i x, xs[i]? = some x → w.cell? (a.add i) = some x

theorem Rd.nil (w : World) : Rd w (.slice none 0 0) [] := .inl ⟨rfl, rfl⟩
theorem Rd.len {w : World} {v : Value} {xs : List Value} (h : Rd w v xs) : ∃ a cap, v = .slice a xs.length cap ∧ xs.length ≤ cap ∧ cap ≤ maxLen := by
  rcases h with ⟨rfl, rfl⟩ | ⟨a, cap, hv, h1, h2, _⟩
  · exact ⟨none, 0, rfl, Nat.le_refl _, Nat.zero_le _⟩
  · exact ⟨some a, cap, hv, h1, h2⟩
theorem Rd.pos {w : World} {v : Value} {xs : List Value} (h : Rd w v xs) (h0 : 0 < xs.length) :
    ∃ b off cap, v = .slice (some ⟨b, off, none⟩) xs.length cap ∧ xs.length ≤ cap ∧ cap ≤ maxLen ∧ ∀ i x, xs[i]? = some x → w.cell? ⟨b, off + i, none⟩ = some x := by
  rcases h with ⟨_, rfl⟩ | ⟨a, cap, hv, h1, h2, h3⟩
  · simp at h0
  · obtain ⟨b, off, spot⟩ := a
    have hspot : spot = none := by
      have := h3 0 xs[0] (by simp [h0])
      simpa [Addr.add] using World.cell?_spot this
    subst hspot
    exact ⟨b, off, cap, hv, h1, h2, fun i x hi => by rw [← add_mk]; exact h3 i x hi⟩
theorem Rd.block {w : World} {v : Value} {xs : List Value} (h : Rd w v xs) {b : Nat} (hb : v.ownBlock = some b) (h0 : 0 < xs.length) : b < w.heap.size := by
  obtain ⟨b', off, cap, rfl, _, _, h3⟩ := h.pos h0
  cases hb
  have := h3 0 xs[0] (by simp [h0])
  exact World.block_lt_of_cell? (a := ⟨b', off + 0, none⟩) w this

/-- what is read stays as it was -/
theorem Rd.keep {S : List Nat} {w w' : World} {v : Value} {xs : List Value} (h : Rd w v xs) (hk : Keep S w w') (hS : ∀ b, v.ownBlock = some b → 0 < xs.length → b ∉ S) : Rd w' v xs := by
  rcases Nat.eq_zero_or_pos xs.length with h0 | h0
  · rcases h with h | ⟨a, cap, hv, h1, h2, h3⟩
    · exact .inl h
    · refine .inr ⟨a, cap, hv, h1, h2, fun i x hi => ?_⟩
      rw [List.eq_nil_of_length_eq_zero h0] at hi; simp at hi
  · obtain ⟨b, off, cap, rfl, h1, h2, h3⟩ := h.pos h0
    have hb : b < w.heap.size := h.block rfl h0
    refine .inr ⟨_, cap, rfl, h1, h2, fun i x hi => ?_⟩
    rw [add_mk, cell_ob, hk.block b hb (hS b rfl h0), ← cell_ob]
    exact h3 i x hi
theorem Rd.alloc {w : World} {v : Value} {xs : List Value} (h : Rd w v xs) (o : Obj) : Rd (w.alloc o) v xs := h.keep (S := []) ((Keep.refl _ _).alloc o) (by simp)
theorem Rd.drew {w : World} {v : Value} {xs : List Value} (h : Rd w v xs) : Rd w.drew v xs := h
theorem Rd.drewN {w : World} {v : Value} {xs : List Value} (h : Rd w v xs) (n : Nat) : Rd (w.drewN n) v xs := h

/-- a block's head -/
theorem Rd.row {w : World} {g n cap : Nat} {cur : Array Value} {t : TypeId} {f : Nat × Nat} (hg : ob w g = some (.cells cur t f)) {xs : List Value} (hn : xs.length = n) (hc : n ≤ cap) (hm : cap ≤ maxLen) (hx : cur.toList.take n = xs) :
    Rd w (.slice (some ⟨g, 0, none⟩) n cap) xs := by
  refine .inr ⟨_, cap, by rw [hn], by omega, hm, fun i x hi => ?_⟩
  rw [add_mk, cell_of_ob hg, Nat.zero_add]
  rw [← hx, List.getElem?_take] at hi
  split at hi
  · simpa using hi
  · cases hi
theorem Rd.own {w : World} {base : Nat} {e : TypeId} {v : Value} {n : Nat} {xs : List Value} (h : w.ownsRow base e 1 v n xs) : Rd w v xs := by
  obtain ⟨hl, h | ⟨g, cap, cur, rfl, hb, hg, hn, hm, hc, ht⟩⟩ := h
  · refine .inl ⟨h.1, ?_⟩
    rw [h.2] at hl
    exact List.eq_nil_of_length_eq_zero (by omega)
  · rw [Nat.mul_one] at *
    exact Rd.row (cur := cur) (t := e) (f := (0, 0)) hg hl hn hm ht

theorem Keep.ofGrown {w w' : World} {row : Option Nat} (h : w.grownBy w' row) : Keep row.toList w w' :=
  ⟨h.os, h.tape, h.output, h.size, fun k hk hS => h.block k hk (fun e => hS (by rw [← e]; simp))⟩

theorem ob_setRow (w : World) (g : Nat) (cs : Array Value) (k : Nat) (h : k ≠ g) : ob (w.setRow g cs) k = ob w k := setRow_other w g k cs h

/-- copy, from whatever slice, into a row of as many cells -/
theorem copy_rd {P : Program} {dT sT elem : TypeId} (hu : P.underlying dT = some (.slice elem)) (hsz : (P.info? elem).map (·.size) = some 1) (w : World) {g n cap : Nat} {cur : Array Value} {t : TypeId}
    (hg : ob w g = some (.cells cur t (0, 0))) (hcur : cur.size = n) {v : Value} {xs : List Value} (hv : Rd w v xs) (hone : ∀ x ∈ xs, x.oneCell' = true) (hn : xs.length = n) (ty : TypeId) :
    ∃ w', (Builtin.copy_ #[dT, sT] ty #[.slice (some ⟨g, 0, none⟩) n cap, v]).run P w = .ok (.int .i64 n) w' ∧ ob w' g = some (.cells xs.toArray t (0, 0)) ∧ Keep [g] w w' ∧ w'.heap.size = w.heap.size := by
  have keep : ∀ cs, Keep [g] w (w.setRow g cs) := fun cs =>
    ⟨rfl, rfl, rfl, by simp [World.setRow], fun k _ hk => ob_setRow w g cs k (by simpa using hk)⟩
  rcases hv with ⟨rfl, rfl⟩ | ⟨a, c, rfl, h1, h2, h3⟩
  · simp at hn
    subst hn
    have hrun := run_copy_none (P := P) w dT sT ty elem (some ⟨g, 0, none⟩) none 0 cap 0 0 hu hsz rfl
    refine ⟨w, hrun, ?_, Keep.refl _ _, rfl⟩
    rw [hg, Array.eq_empty_of_size_eq_zero hcur]
  · have hrun := run_copy_row (P := P) w dT sT ty elem g 0 n cap a xs.length c cur t xs hu hsz hg (by rw [hn]; exact (Nat.min_self n).symm) h3 (by omega) hone
    refine ⟨_, by rw [hrun, ← hn]; rfl, ?_, keep _, by simp [World.setRow]⟩
    rw [show ob (w.setRow g _) g = _ from setRow_heap w g cur _ t (0, 0) hg]
    have : cur.toList.drop (0 + xs.length) = [] := List.drop_eq_nil_of_le (by rw [Array.length_toList]; omega)
    rw [this]; simp

theorem owns_slice {w : World} {base : Nat} {e : TypeId} {size : Nat} {v : Value} {n : Nat} {xs : List Value} (h : w.ownsRow base e size v n xs) : ∃ va vc, v = .slice va n vc := by
  rcases h.2 with ⟨rfl, rfl⟩ | ⟨g, cap, cur, rfl, _⟩
  · exact ⟨none, 0, rfl⟩
  · exact ⟨_, cap, rfl⟩

/-- append, of whatever slice, to a row of the call's own -/
theorem append_rd {P : Program} {t e : TypeId} {z : Value} {bytes : Nat} (ht : P.underlying t = some (.slice e)) (hinfo : (P.info? e).map (fun i => (i.zero, i.size, i.bytes)) = some (some z, 1, bytes)) (hz1 : z.cells = #[z])
    (w : World) {base : Nat} {v : Value} {n : Nat} {xs : List Value} (hown : w.ownsRow base e 1 v n xs) {v2 : Value} {ys : List Value} (hv : Rd w v2 ys) (hone : ∀ x ∈ ys, x.oneCell' = true)
    (h63 : n + ys.length ≤ maxLen) (hb : (n + ys.length) * bytes ≤ 140737488355328) (hbase : base ≤ w.heap.size) (ty : TypeId) :
    ∃ va vc w', (Builtin.append_ #[t, t] ty #[v, v2]).run P w = .ok (.slice va (n + ys.length) vc) w' ∧ w'.ownsRow base e 1 (.slice va (n + ys.length) vc) (n + ys.length) (xs ++ ys) ∧ w.grownBy w' v.ownBlock := by
  suffices h : ∃ v' w', (Builtin.append_ #[t, t] ty #[v, v2]).run P w = .ok v' w' ∧ w'.ownsRow base e 1 v' (n + ys.length) (xs ++ ys) ∧ w.grownBy w' v.ownBlock by
    obtain ⟨v', w', h1, h2, h3⟩ := h
    obtain ⟨va, vc, rfl⟩ := owns_slice h2
    exact ⟨va, vc, w', h1, h2, h3⟩
  obtain ⟨i, hi, hzz⟩ := Option.map_eq_some_iff.1 hinfo
  simp only [Prod.mk.injEq] at hzz
  obtain ⟨hz, hs, hby⟩ := hzz
  rcases hv with ⟨rfl, rfl⟩ | ⟨a, c, rfl, h1, h2, h3⟩
  · exact ⟨v, w, run_append_owned_none w base t ty e i 1 ht hi v n xs hown, by simpa using hown, ⟨rfl, rfl, rfl, Nat.le_refl _, fun _ _ _ => rfl⟩⟩
  · obtain ⟨v', w', r1, r2, r3, _⟩ := run_append_own w base t ty e i z 1 bytes ht hi hz hs hby (by rw [hz1]; rfl) (by omega) v n xs hown a ys.length c ys (by omega) h3 hone h63 hb hbase
    exact ⟨v', w', r1, r2, r3⟩

/-- append, by its equation, in a walk: 'go_wp2_with (at_builtin; refine wpList_append_eq rfl _ _ _ rfl rfl rfl happ ?_)' -/
theorem wpList_append_eq {P : Program} {w : World} {ops : Array Oper} {rest : List Oper} {o : Oper} {a : Act} {Q : Exit → Act → World → Prop} (hgd : o.guard = none) (s x : Operand) (t : TypeId)
    (hop : o.op = .call { callee := .builtin .append, args := #[s, x], argTypes := #[t, t] }) {v1 v2 v' : Value} {w' : World} (hs : a.eval s = v1) (hx : a.eval x = v2)
    (hrun : (Builtin.append_ #[t, t] o.type #[v1, v2]).run P w = .ok v' w') (h : wpList P ops Q rest (a.put o.dst v') w') : wpList P ops Q (o :: rest) a w := by
  refine wpList_plain hgd fun K hK => ?_
  unfold Oper.wp
  simp [execOp, hop, resolve, invoke, builtin, hs, hx, hrun, Result.andThen]
  exact hK _ _ h
/-- .. as a step of a region that draws its order: 'go_region_law (refine step_append_eq rfl _ _ _ rfl rfl rfl happ ?_)' -/
theorem step_append_eq {P : Program} {ops : Array Oper} {o : Oper} {a : Act} {w : World} {K : Act → World → Prop} {Q : Exit → Act → World → Prop} {E : Prop} (hgd : o.guard = none) (s x : Operand) (t : TypeId)
    (hop : o.op = .call { callee := .builtin .append, args := #[s, x], argTypes := #[t, t] }) {v1 v2 v' : Value} {w' : World} (hs : a.eval s = v1) (hx : a.eval x = v2)
    (hrun : (Builtin.append_ #[t, t] o.type #[v1, v2]).run P w = .ok v' w') (h : K (a.put o.dst v') w') : if Region.wanted o (yielded ops a.tmps) = true then Oper.wp P o a w K Q else E := by
  have hw : Region.wanted o (yielded ops a.tmps) = true := by simp [Region.wanted, hgd]
  rw [if_pos hw]
  unfold Oper.wp
  simp [execOp, hop, resolve, invoke, builtin, hs, hx, hrun, Result.andThen]
  exact h

theorem ownBlock_ge {w : World} {base : Nat} {e : TypeId} {size : Nat} {v : Value} {n : Nat} {xs : List Value} (h : w.ownsRow base e size v n xs) {b : Nat} (hb : v.ownBlock = some b) : base ≤ b := by
  rcases h.2 with ⟨rfl, _⟩ | ⟨g, cap, cur, rfl, hg, _⟩
  · cases hb
  · cases hb; exact hg
theorem ownBlock_lt {w : World} {base : Nat} {e : TypeId} {size : Nat} {v : Value} {n : Nat} {xs : List Value} (h : w.ownsRow base e size v n xs) {b : Nat} (hb : v.ownBlock = some b) : b < w.heap.size := by
  rcases h.2 with ⟨rfl, _⟩ | ⟨g, cap, cur, rfl, _, hg, _⟩
  · cases hb
  · cases hb; exact ob_lt (w := w) hg
/-- an owned row stays owned where its block is none of those that may have changed -/
theorem owns_keep {S : List Nat} {w w' : World} {base : Nat} {e : TypeId} {size : Nat} {v : Value} {n : Nat} {xs : List Value} (h : w.ownsRow base e size v n xs) (hk : Keep S w w') (hS : ∀ b, v.ownBlock = some b → b ∉ S) : w'.ownsRow base e size v n xs := by
  refine ⟨h.1, ?_⟩
  rcases h.2 with h2 | ⟨g, cap, cur, rfl, hb, hg, r⟩
  · exact .inl h2
  · have hlt : g < w.heap.size := ob_lt (w := w) hg
    exact .inr ⟨g, cap, cur, rfl, hb, (hk.block g hlt (hS g rfl)).trans hg, r⟩
theorem owns_empty (w : World) {base : Nat} (hb : base ≤ w.heap.size) (e : TypeId) (size : Nat) : (w.alloc (.cells #[] e)).ownsRow base e size (.slice (some ⟨w.heap.size, 0, none⟩) 0 0) 0 [] :=
  ⟨by simp, .inr ⟨w.heap.size, 0, #[], rfl, hb, heap_alloc_new w _, Nat.le_refl _, Nat.zero_le _, by simp, by simp⟩⟩

/-- make, of a length that is a variable: zeros -/
def zeros (z : Value) (n : Nat) : Array Value := madeCells #[z] n
theorem size_zeros (z : Value) (n : Nat) : (zeros z n).size = n := size_madeCells _ _
theorem make_row {P : Program} {t e : TypeId} {z : Value} {bytes : Nat} (ht : P.underlying t = some (.slice e)) (hinfo : (P.info? e).map (fun i => (i.zero, i.size, i.bytes)) = some (some z, 1, bytes)) (hz1 : z.cells = #[z])
    (n : Nat) (hb : bytes * n ≤ 281474976710656) (h63 : n ≤ 9223372036854775807) (w : World) :
    (Instr.makeSlice t (.int .i64 (n : Int)) (.int .i64 (n : Int))).run P w = .ok (.slice (some ⟨w.heap.size, 0, none⟩) n n) (w.alloc (.cells (zeros z n) e)) :=
  run_make_row' t e z bytes ht hinfo hz1 .i64 .i64 n hb h63 w

/-- words, as cells -/
def u64s (ws : List Int) : List Value := ws.map (Value.int .u64)
theorem u64s_length (ws : List Int) : (u64s ws).length = ws.length := List.length_map ..
theorem u64s_one {ws : List Int} : ∀ x ∈ u64s ws, x.oneCell' = true := by
  intro x hx
  simp only [u64s, List.mem_map] at hx
  obtain ⟨n, _, rfl⟩ := hx
  rfl
theorem u64s_inj {a b : List Int} (h : u64s a = u64s b) : a = b := by
  induction a generalizing b with
  | nil => cases b with
    | nil => rfl
    | cons => simp [u64s] at h
  | cons x a ih => cases b with
    | nil => simp [u64s] at h
    | cons y b =>
      simp only [u64s, List.map_cons, List.cons.injEq, Value.int.injEq, true_and] at h
      rw [h.1, ih h.2]
theorem u64s_get {ws : List Int} {i : Nat} {x : Value} (h : (u64s ws)[i]? = some x) : ∃ n, ws[i]? = some n ∧ x = .int .u64 n := by
  simp only [u64s, List.getElem?_map, Option.map_eq_some_iff] at h
  obtain ⟨n, h1, h2⟩ := h
  exact ⟨n, h1, h2.symm⟩
end Go.Proofs.Ytehmjjfgefopdaa
