import Derived.Test.YtajlpicdkdeceaaLib
namespace Go.Proofs.Ytajlpicdkdeceaa
open Go.RowKit
set_option linter.unusedSimpArgs false
set_option linter.unusedVariables false

/-! ### parts and their bytes, plainly -/
structure PB where
  pg : Int
  wr : Bool
  ws : List Int
  deriving DecidableEq
def okW (w : Int) : Prop := 0 ≤ w ∧ w ≤ 18446744073709551615
def okB (c : Int) : Prop := 0 ≤ c ∧ c ≤ 255
def rightF : Int → List PB → Bool
  | _, [] => true
  | last, p :: t => decide (last < p.pg ∧ p.pg < 4096 ∧ 1 ≤ p.ws.length ∧ p.ws.length ≤ 16) && rightF p.pg t
def right (l : List PB) : Bool := rightF (-1) l && decide (1 ≤ l.length ∧ l.length ≤ 16)
def encW (w : Int) : List Int := [w / 72057594037927936 % 256, w / 281474976710656 % 256, w / 1099511627776 % 256, w / 4294967296 % 256, w / 16777216 % 256, w / 65536 % 256, w / 256 % 256, w % 256]
def encWs (ws : List Int) : List Int := ws.flatMap encW
def encP (p : PB) : List Int := [p.pg / 256 % 256, p.pg % 256, (if p.wr = true then 1 else 0), (p.ws.length : Int) % 256] ++ encWs p.ws
def encPs (l : List PB) : List Int := l.flatMap encP
def enc (l : List PB) : List Int := (l.length : Int) % 256 :: encPs l
def val (bs : List Int) : Int := bs.foldl (fun n c => n * 256 + c) 0
def takeN (k : Nat) (bs : List Int) : Option (Int × List Int) := if k ≤ bs.length then some (val (bs.take k), bs.drop k) else none
def decWs : Nat → List Int → Option (List Int × List Int)
  | 0, bs => some ([], bs)
  | c + 1, bs => (takeN 8 bs).bind fun (w, r) => (decWs c r).map fun (ws, r') => (w :: ws, r')
def decP (bs : List Int) : Option (PB × List Int) :=
  (takeN 2 bs).bind fun (pg, r1) => (takeN 1 r1).bind fun (wr, r2) => if wr < 2 then (takeN 1 r2).bind fun (c, r3) => (decWs c.toNat r3).map fun (ws, r4) => (⟨pg, decide (wr = 1), ws⟩, r4) else none
def decPs : Nat → List Int → Option (List PB × List Int)
  | 0, bs => some ([], bs)
  | n + 1, bs => (decP bs).bind fun (p, r) => (decPs n r).map fun (l, r') => (p :: l, r')
def dec (bs : List Int) : Option (List PB) := (takeN 1 bs).bind fun (n, r) => (decPs n.toNat r).bind fun (l, r') => if r' = [] ∧ right l = true then some l else none

theorem takeN_1 (x : Int) (r : List Int) : takeN 1 (x :: r) = some (x, r) := by simp [takeN, val]
theorem takeN_2 (x y : Int) (r : List Int) : takeN 2 (x :: y :: r) = some (x * 256 + y, r) := by simp [takeN, val]
theorem val8 (a b c d e f g h : Int) : val [a, b, c, d, e, f, g, h] = ((((((a * 256 + b) * 256 + c) * 256 + d) * 256 + e) * 256 + f) * 256 + g) * 256 + h := by simp [val]
theorem encW_len (w : Int) : (encW w).length = 8 := rfl
theorem encWs_len (ws : List Int) : (encWs ws).length = 8 * ws.length := by
  induction ws with
  | nil => rfl
  | cons w ws ih => simp only [encWs, List.flatMap_cons, List.length_append, encW_len, List.length_cons] at ih ⊢; omega
theorem val_encW (w : Int) (h : okW w) : val (encW w) = w := by
  unfold okW at h
  rw [encW, val8]
  omega
theorem takeN_8 (w : Int) (h : okW w) (r : List Int) : takeN 8 (encW w ++ r) = some (w, r) := by
  have hl : 8 ≤ (encW w ++ r).length := by rw [List.length_append, encW_len]; omega
  unfold takeN
  rw [if_pos hl, List.take_left' (encW_len w), List.drop_left' (encW_len w), val_encW w h]
theorem decWs_enc : ∀ (ws : List Int) (r : List Int), (∀ w ∈ ws, okW w) → decWs ws.length (encWs ws ++ r) = some (ws, r)
  | [], r, _ => rfl
  | w :: ws, r, h => by
    have e : encWs (w :: ws) ++ r = encW w ++ (encWs ws ++ r) := by simp [encWs]
    rw [e]
    simp only [List.length_cons, decWs, takeN_8 w (h w (.head _)), Option.bind_some, decWs_enc ws r (fun x hx => h x (List.mem_cons_of_mem _ hx)), Option.map_some]
/-- a part that may be -/
def okP (p : PB) : Prop := 0 ≤ p.pg ∧ p.pg < 4096 ∧ 1 ≤ p.ws.length ∧ p.ws.length ≤ 16
theorem rightF_ok : ∀ (l : List PB) (last : Int), -1 ≤ last → rightF last l = true → ∀ p ∈ l, okP p
  | [], _, _, _, p, hp => by cases hp
  | q :: t, last, hl, h, p, hp => by
    simp only [rightF, Bool.and_eq_true, decide_eq_true_eq] at h
    obtain ⟨⟨h1, h2, h3, h4⟩, h5⟩ := h
    rcases List.mem_cons.1 hp with rfl | hp
    · exact ⟨by omega, h2, h3, h4⟩
    · exact rightF_ok t q.pg (by omega) h5 p hp
theorem right_ok {l : List PB} (h : right l = true) : (∀ p ∈ l, okP p) ∧ 1 ≤ l.length ∧ l.length ≤ 16 := by
  unfold right at h
  simp only [Bool.and_eq_true, decide_eq_true_eq] at h
  exact ⟨rightF_ok l (-1) (by omega) h.1, h.2⟩
def wordsOk (l : List PB) : Prop := ∀ p ∈ l, ∀ w ∈ p.ws, okW w
theorem decP_enc (p : PB) (r : List Int) (h : okP p) (hw : ∀ w ∈ p.ws, okW w) : decP (encP p ++ r) = some (p, r) := by
  obtain ⟨h1, h2, h3, h4⟩ := h
  have e : encP p ++ r = (p.pg / 256 % 256) :: (p.pg % 256) :: (if p.wr = true then 1 else 0) :: ((p.ws.length : Int) % 256) :: (encWs p.ws ++ r) := by simp [encP]
  rw [e, decP, takeN_2]
  simp only [Option.bind_some, takeN_1]
  have e1 : p.pg / 256 % 256 * 256 + p.pg % 256 = p.pg := by omega
  have e2 : ((p.ws.length : Int) % 256).toNat = p.ws.length := by omega
  rw [e1, e2, decWs_enc p.ws r hw]
  obtain ⟨pg, wr, ws⟩ := p
  cases wr <;> simp
theorem decPs_enc : ∀ (l : List PB) (r : List Int), (∀ p ∈ l, okP p) → wordsOk l → decPs l.length (encPs l ++ r) = some (l, r)
  | [], r, _, _ => rfl
  | p :: l, r, h, hw => by
    have e : encPs (p :: l) ++ r = encP p ++ (encPs l ++ r) := by simp [encPs]
    rw [e]
    simp only [List.length_cons, decPs, decP_enc p _ (h p (.head _)) (hw p (.head _)), Option.bind_some, decPs_enc l r (fun x hx => h x (List.mem_cons_of_mem _ hx)) (fun x hx => hw x (List.mem_cons_of_mem _ hx)), Option.map_some]
/-- what was written is read -/
theorem dec_enc (l : List PB) (h : right l = true) (hw : wordsOk l) : dec (enc l) = some l := by
  obtain ⟨h1, h2, h3⟩ := right_ok h
  have e2 : ((l.length : Int) % 256).toNat = l.length := by omega
  have := decPs_enc l [] h1 hw
  rw [List.append_nil] at this
  rw [dec, enc, takeN_1]
  simp only [Option.bind_some, e2, this]
  simp [h]

/-! ### what is read has just these bytes -/
theorem takeN_some {k : Nat} {bs r : List Int} {x : Int} (h : takeN k bs = some (x, r)) : k ≤ bs.length ∧ x = val (bs.take k) ∧ r = bs.drop k := by
  unfold takeN at h
  split at h
  · simp at h; exact ⟨by assumption, h.1.symm, h.2.symm⟩
  · cases h
theorem takeN1_some {bs r : List Int} {x : Int} (h : takeN 1 bs = some (x, r)) : bs = x :: r := by
  obtain ⟨h1, h2, h3⟩ := takeN_some h
  match bs, h1 with
  | a :: t, _ => simp [val] at h2 h3; rw [h2, h3]
theorem takeN2_some {bs r : List Int} {x : Int} (h : takeN 2 bs = some (x, r)) : ∃ a b, bs = a :: b :: r ∧ x = a * 256 + b := by
  obtain ⟨h1, h2, h3⟩ := takeN_some h
  match bs, h1 with
  | a :: b :: t, _ => simp [val] at h2 h3; exact ⟨a, b, by rw [h3], h2⟩
theorem encW_val (a b c d e f g h : Int) (ha : okB a) (hb : okB b) (hc : okB c) (hd : okB d) (he : okB e) (hf : okB f) (hg : okB g) (hh : okB h) : encW (val [a, b, c, d, e, f, g, h]) = [a, b, c, d, e, f, g, h] ∧ okW (val [a, b, c, d, e, f, g, h]) := by
  unfold okB at *
  rw [val8]
  unfold encW okW
  refine ⟨?_, by omega, by omega⟩
  simp only [List.cons.injEq, and_true]
  refine ⟨?_, ?_, ?_, ?_, ?_, ?_, ?_, ?_⟩ <;> omega
theorem takeN8_some {bs r : List Int} {x : Int} (h : takeN 8 bs = some (x, r)) (hb : ∀ c ∈ bs, okB c) : bs = encW x ++ r ∧ okW x := by
  obtain ⟨h1, h2, h3⟩ := takeN_some h
  match bs, h1 with
  | a :: b :: c :: d :: e :: f :: g :: i :: t, _ =>
    simp at h2 h3
    obtain ⟨q1, q2⟩ := encW_val a b c d e f g i (hb a (by simp)) (hb b (by simp)) (hb c (by simp)) (hb d (by simp)) (hb e (by simp)) (hb f (by simp)) (hb g (by simp)) (hb i (by simp))
    rw [h2, h3, q1]
    exact ⟨rfl, q2⟩
theorem decWs_some : ∀ (c : Nat) (bs r : List Int) (ws : List Int), decWs c bs = some (ws, r) → (∀ c ∈ bs, okB c) → bs = encWs ws ++ r ∧ ws.length = c ∧ ∀ w ∈ ws, okW w
  | 0, bs, r, ws, h, _ => by simp [decWs] at h; obtain ⟨rfl, rfl⟩ := h; simp [encWs]
  | c + 1, bs, r, ws, h, hb => by
    simp only [decWs] at h
    cases h1 : takeN 8 bs with
    | none => rw [h1] at h; cases h
    | some x =>
      obtain ⟨w, r1⟩ := x
      rw [h1] at h
      simp only [Option.bind_some] at h
      obtain ⟨e1, e2⟩ := takeN8_some h1 hb
      cases h3 : decWs c r1 with
      | none => rw [h3] at h; cases h
      | some y =>
        obtain ⟨ws1, r2⟩ := y
        rw [h3] at h
        simp at h
        obtain ⟨rfl, rfl⟩ := h
        obtain ⟨q1, q2, q3⟩ := decWs_some c r1 r2 ws1 h3 (fun x hx => hb x (by rw [e1]; exact List.mem_append_right _ hx))
        refine ⟨?_, by simp [q2], fun x hx => ?_⟩
        · rw [e1, q1]; simp [encWs]
        · rcases List.mem_cons.1 hx with rfl | hx
          · exact e2
          · exact q3 x hx
theorem decP_some {bs r : List Int} {p : PB} (h : decP bs = some (p, r)) (hb : ∀ c ∈ bs, okB c) : bs = encP p ++ r ∧ (∀ w ∈ p.ws, okW w) ∧ (∀ c ∈ r, okB c) := by
  simp only [decP] at h
  cases h1 : takeN 2 bs with
  | none => rw [h1] at h; cases h
  | some x =>
    obtain ⟨pg, r1⟩ := x
    rw [h1] at h
    simp only [Option.bind_some] at h
    obtain ⟨a, b, rfl, rfl⟩ := takeN2_some h1
    cases h2 : takeN 1 r1 with
    | none => rw [h2] at h; cases h
    | some x =>
      obtain ⟨wr, r2⟩ := x
      rw [h2] at h
      simp only [Option.bind_some] at h
      obtain rfl := takeN1_some h2
      split at h
      · rename_i hwr
        cases h3 : takeN 1 r2 with
        | none => rw [h3] at h; cases h
        | some x =>
          obtain ⟨c, r3⟩ := x
          rw [h3] at h
          simp only [Option.bind_some] at h
          obtain rfl := takeN1_some h3
          cases h4 : decWs c.toNat r3 with
          | none => rw [h4] at h; cases h
          | some y =>
            obtain ⟨ws, r4⟩ := y
            rw [h4] at h
            simp at h
            obtain ⟨rfl, rfl⟩ := h
            obtain ⟨q1, q2, q3⟩ := decWs_some _ _ _ _ h4 (fun x hx => hb x (by simp [hx]))
            have ha := hb a (by simp)
            have hb2 := hb b (by simp)
            have hw2 := hb wr (by simp)
            have hc2 := hb c (by simp)
            unfold okB at ha hb2 hw2 hc2
            refine ⟨?_, q3, fun x hx => hb x (by rw [q1]; simp [hx])⟩
            have f1 : (a * 256 + b) / 256 % 256 = a := by omega
            have f2 : (a * 256 + b) % 256 = b := by omega
            have f3 : (ws.length : Int) % 256 = c := by omega
            have f4 : (if decide (wr = 1) = true then (1 : Int) else 0) = wr := by
              by_cases e : wr = 1
              · simp [e]
              · have : wr = 0 := by omega
                simp [this]
            simp only [encP, f1, f2, f3, f4, q1]
            simp
      · cases h
theorem decPs_some : ∀ (n : Nat) (bs r : List Int) (l : List PB), decPs n bs = some (l, r) → (∀ c ∈ bs, okB c) → bs = encPs l ++ r ∧ l.length = n ∧ wordsOk l
  | 0, bs, r, l, h, _ => by simp [decPs] at h; obtain ⟨rfl, rfl⟩ := h; exact ⟨rfl, rfl, by intro p hp; cases hp⟩
  | n + 1, bs, r, l, h, hb => by
    simp only [decPs] at h
    cases h1 : decP bs with
    | none => rw [h1] at h; cases h
    | some x =>
      obtain ⟨p, r1⟩ := x
      rw [h1] at h
      simp only [Option.bind_some] at h
      obtain ⟨e1, e2, e3⟩ := decP_some h1 hb
      cases h3 : decPs n r1 with
      | none => rw [h3] at h; cases h
      | some y =>
        obtain ⟨l1, r2⟩ := y
        rw [h3] at h
        simp at h
        obtain ⟨rfl, rfl⟩ := h
        obtain ⟨q1, q2, q3⟩ := decPs_some n r1 r2 l1 h3 e3
        refine ⟨?_, by simp [q2], fun x hx => ?_⟩
        · rw [e1, q1]; simp [encPs]
        · rcases List.mem_cons.1 hx with rfl | hx
          · exact e2
          · exact q3 x hx
theorem dec_some {bs : List Int} {l : List PB} (h : dec bs = some l) (hb : ∀ c ∈ bs, okB c) : enc l = bs ∧ right l = true ∧ wordsOk l := by
  simp only [dec] at h
  cases h1 : takeN 1 bs with
  | none => rw [h1] at h; cases h
  | some x =>
    obtain ⟨n, r⟩ := x
    rw [h1] at h
    simp only [Option.bind_some] at h
    obtain rfl := takeN1_some h1
    cases h2 : decPs n.toNat r with
    | none => rw [h2] at h; cases h
    | some y =>
      obtain ⟨l1, r2⟩ := y
      rw [h2] at h
      simp only [Option.bind_some] at h
      split at h
      · rename_i hr
        simp at h
        subst h
        obtain ⟨q1, q2, q3⟩ := decPs_some _ _ _ _ h2 (fun x hx => hb x (by simp [hx]))
        have hn := hb n (by simp)
        unfold okB at hn
        refine ⟨?_, hr.2, q3⟩
        rw [enc, q1, hr.1, List.append_nil, q2]
        congr 1
        omega
      · cases h
/-! ### a beginning is none -/
theorem takeN_app {k : Nat} {bs r : List Int} {x : Int} (h : takeN k bs = some (x, r)) (t : List Int) : takeN k (bs ++ t) = some (x, r ++ t) := by
  obtain ⟨h1, rfl, rfl⟩ := takeN_some h
  unfold takeN
  rw [if_pos (by rw [List.length_append]; omega), List.take_append_of_le_length h1, List.drop_append_of_le_length h1]
theorem decWs_app : ∀ (c : Nat) (bs r : List Int) (ws : List Int), decWs c bs = some (ws, r) → ∀ t, decWs c (bs ++ t) = some (ws, r ++ t)
  | 0, bs, r, ws, h, t => by simp [decWs] at h ⊢; obtain ⟨rfl, rfl⟩ := h; simp
  | c + 1, bs, r, ws, h, t => by
    simp only [decWs] at h ⊢
    cases h1 : takeN 8 bs with
    | none => rw [h1] at h; cases h
    | some x =>
      obtain ⟨w, r1⟩ := x
      rw [h1] at h
      simp only [Option.bind_some] at h
      cases h3 : decWs c r1 with
      | none => rw [h3] at h; cases h
      | some y =>
        obtain ⟨ws1, r2⟩ := y
        rw [h3] at h
        simp at h
        obtain ⟨rfl, rfl⟩ := h
        rw [takeN_app h1 t]
        simp only [Option.bind_some, decWs_app c r1 r2 ws1 h3 t, Option.map_some]
theorem decP_app {bs r : List Int} {p : PB} (h : decP bs = some (p, r)) (t : List Int) : decP (bs ++ t) = some (p, r ++ t) := by
  simp only [decP] at h ⊢
  cases h1 : takeN 2 bs with
  | none => rw [h1] at h; cases h
  | some x =>
    obtain ⟨pg, r1⟩ := x
    rw [h1] at h
    rw [takeN_app h1 t]
    simp only [Option.bind_some] at h ⊢
    cases h2 : takeN 1 r1 with
    | none => rw [h2] at h; cases h
    | some x =>
      obtain ⟨wr, r2⟩ := x
      rw [h2] at h
      rw [takeN_app h2 t]
      simp only [Option.bind_some] at h ⊢
      split at h
      · rename_i hwr
        rw [if_pos hwr]
        cases h3 : takeN 1 r2 with
        | none => rw [h3] at h; cases h
        | some x =>
          obtain ⟨c, r3⟩ := x
          rw [h3] at h
          rw [takeN_app h3 t]
          simp only [Option.bind_some] at h ⊢
          cases h4 : decWs c.toNat r3 with
          | none => rw [h4] at h; cases h
          | some y =>
            obtain ⟨ws, r4⟩ := y
            rw [h4] at h
            rw [decWs_app _ _ _ _ h4 t]
            simp at h ⊢
            obtain ⟨rfl, rfl⟩ := h
            exact ⟨rfl, rfl⟩
      · cases h
theorem decPs_app : ∀ (n : Nat) (bs r : List Int) (l : List PB), decPs n bs = some (l, r) → ∀ t, decPs n (bs ++ t) = some (l, r ++ t)
  | 0, bs, r, l, h, t => by simp [decPs] at h ⊢; obtain ⟨rfl, rfl⟩ := h; simp
  | n + 1, bs, r, l, h, t => by
    simp only [decPs] at h ⊢
    cases h1 : decP bs with
    | none => rw [h1] at h; cases h
    | some x =>
      obtain ⟨p, r1⟩ := x
      rw [h1] at h
      simp only [Option.bind_some] at h
      cases h3 : decPs n r1 with
      | none => rw [h3] at h; cases h
      | some y =>
        obtain ⟨l1, r2⟩ := y
        rw [h3] at h
        simp at h
        obtain ⟨rfl, rfl⟩ := h
        rw [decP_app h1 t]
        simp only [Option.bind_some, decPs_app n r1 r2 l1 h3 t, Option.map_some]
theorem dec_parts {bs : List Int} {l : List PB} (h : dec bs = some l) : ∃ n r, bs = n :: r ∧ decPs n.toNat r = some (l, []) ∧ right l = true := by
  simp only [dec] at h
  cases h1 : takeN 1 bs with
  | none => rw [h1] at h; cases h
  | some x =>
    obtain ⟨n, r⟩ := x
    rw [h1] at h
    simp only [Option.bind_some] at h
    obtain rfl := takeN1_some h1
    cases h2 : decPs n.toNat r with
    | none => rw [h2] at h; cases h
    | some y =>
      obtain ⟨l1, r2⟩ := y
      rw [h2] at h
      simp only [Option.bind_some] at h
      split at h
      · rename_i hr
        simp at h
        subst h
        obtain ⟨rfl, hr2⟩ := hr
        exact ⟨n, r, rfl, h2, hr2⟩
      · cases h
theorem dec_more {bs : List Int} {l : List PB} (h : dec bs = some l) {t : List Int} (ht : t ≠ []) : dec (bs ++ t) = none := by
  obtain ⟨n, r, rfl, h2, _⟩ := dec_parts h
  simp only [dec, List.cons_append, takeN_1, Option.bind_some]
  rw [decPs_app _ _ _ _ h2 t]
  simp only [Option.bind_some, List.nil_append]
  rw [if_neg (fun e => ht e.1)]
theorem dec_less {bs t : List Int} {l : List PB} (h : dec (bs ++ t) = some l) (ht : t ≠ []) : dec bs = none := by
  cases h1 : dec bs with
  | none => rfl
  | some l1 => rw [dec_more h1 ht] at h; cases h
/-! ### the reference reads otherwise, the same -/
def refWs : Nat → List Int → List Int × List Int
  | 0, bs => ([], bs)
  | c + 1, bs => if 8 ≤ bs.length then (val (bs.take 8) :: (refWs c (bs.drop 8)).1, (refWs c (bs.drop 8)).2) else ([], bs)
def refPs : Nat → List Int → List PB
  | 0, _ => []
  | f + 1, a :: b :: c :: d :: r => ⟨a * 256 + b, decide (c = 1), (refWs d.toNat r).1⟩ :: refPs f (refWs d.toNat r).2
  | _ + 1, _ => []
def refDec (bs : List Int) : Option (List PB) := if right (refPs 17 (bs.drop 1)) = true ∧ enc (refPs 17 (bs.drop 1)) = bs then some (refPs 17 (bs.drop 1)) else none
theorem refWs_enc : ∀ (ws : List Int) (r : List Int), (∀ w ∈ ws, okW w) → refWs ws.length (encWs ws ++ r) = (ws, r)
  | [], r, _ => rfl
  | w :: ws, r, h => by
    have e : encWs (w :: ws) ++ r = encW w ++ (encWs ws ++ r) := by simp [encWs]
    have ih := refWs_enc ws r (fun x hx => h x (List.mem_cons_of_mem _ hx))
    rw [e, List.length_cons, refWs, if_pos (by rw [List.length_append, encW_len]; omega), List.take_left' (encW_len w), List.drop_left' (encW_len w), val_encW w (h w (.head _)), ih]
theorem refPs_enc : ∀ (l : List PB) (f : Nat), l.length < f → (∀ p ∈ l, okP p) → wordsOk l → refPs f (encPs l) = l
  | [], f + 1, _, _, _ => rfl
  | p :: l, f + 1, hf, h, hw => by
    obtain ⟨h1, h2, h3, h4⟩ := h p (.head _)
    have e : encPs (p :: l) = (p.pg / 256 % 256) :: (p.pg % 256) :: (if p.wr = true then 1 else 0) :: ((p.ws.length : Int) % 256) :: (encWs p.ws ++ encPs l) := by simp [encPs, encP]
    have e1 : p.pg / 256 % 256 * 256 + p.pg % 256 = p.pg := by omega
    have e2 : ((p.ws.length : Int) % 256).toNat = p.ws.length := by omega
    rw [e, refPs, e2, refWs_enc p.ws _ (hw p (.head _)), e1, refPs_enc l f (by simp at hf; omega) (fun x hx => h x (List.mem_cons_of_mem _ hx)) (fun x hx => hw x (List.mem_cons_of_mem _ hx))]
    obtain ⟨pg, wr, ws⟩ := p
    cases wr <;> simp
theorem val_ok : ∀ (bs : List Int), (∀ c ∈ bs, okB c) → bs.length = 8 → okW (val bs)
  | [a, b, c, d, e, f, g, h], hb, _ => (encW_val a b c d e f g h (hb a (by simp)) (hb b (by simp)) (hb c (by simp)) (hb d (by simp)) (hb e (by simp)) (hb f (by simp)) (hb g (by simp)) (hb h (by simp))).2
theorem refWs_ok : ∀ (c : Nat) (bs : List Int), (∀ x ∈ bs, okB x) → (∀ w ∈ (refWs c bs).1, okW w) ∧ ∀ x ∈ (refWs c bs).2, okB x
  | 0, bs, h => ⟨by simp [refWs], h⟩
  | c + 1, bs, h => by
    rw [refWs]
    split
    · rename_i hl
      have ih := refWs_ok c (bs.drop 8) (fun x hx => h x (List.mem_of_mem_drop hx))
      refine ⟨fun w hw => ?_, ih.2⟩
      rcases List.mem_cons.1 hw with rfl | hw
      · exact val_ok _ (fun x hx => h x (List.mem_of_mem_take hx)) (by simp; omega)
      · exact ih.1 w hw
    · exact ⟨by simp, h⟩
theorem refPs_ok : ∀ (f : Nat) (bs : List Int), (∀ c ∈ bs, okB c) → wordsOk (refPs f bs)
  | 0, bs, h => by intro p hp; cases hp
  | f + 1, bs, h => by
    match bs, h with
    | [], _ => intro p hp; cases hp
    | [_], _ => intro p hp; cases hp
    | [_, _], _ => intro p hp; cases hp
    | [_, _, _], _ => intro p hp; cases hp
    | a :: b :: c :: d :: r, h =>
      have hr := refWs_ok d.toNat r (fun x hx => h x (by simp [hx]))
      intro p hp
      rw [refPs] at hp
      rcases List.mem_cons.1 hp with rfl | hp
      · exact hr.1
      · exact refPs_ok f _ hr.2 p hp
theorem ref_dec (bs : List Int) (hb : ∀ c ∈ bs, okB c) : refDec bs = dec bs := by
  unfold refDec
  split
  · rename_i h
    have hw := refPs_ok 17 (bs.drop 1) (fun x hx => hb x (List.mem_of_mem_drop hx))
    have := dec_enc _ h.1 hw
    rw [h.2] at this
    exact this.symm
  · rename_i h
    cases h1 : dec bs with
    | none => rfl
    | some l =>
      obtain ⟨e1, e2, e3⟩ := dec_some h1 hb
      obtain ⟨q1, q2, q3⟩ := right_ok e2
      have : refPs 17 (bs.drop 1) = l := by
        rw [← e1, enc, List.drop_one, List.tail_cons]
        exact refPs_enc l 17 (by omega) q1 e3
      rw [this] at h
      exact absurd ⟨e2, e1⟩ h
/-! ### how many -/
theorem encP_len (p : PB) : (encP p).length = 4 + 8 * p.ws.length := by
  rw [encP, List.length_append, encWs_len]; rfl
def total (l : List PB) : Nat := 1 + (l.map fun p => 4 + 8 * p.ws.length).sum
theorem enc_len (l : List PB) : (enc l).length = total l := by
  rw [enc, List.length_cons, total, Nat.add_comm]
  congr 1
  induction l with
  | nil => rfl
  | cons p l ih => simp only [encPs, List.flatMap_cons, List.length_append, encP_len, List.map_cons, List.sum_cons] at ih ⊢; omega
end Go.Proofs.Ytajlpicdkdeceaa
