import Derived.Test.YtajlpicdkdeceaaDoorLib
import Derived.Lib.Split
import Derived.Lib.Join
import Derived.Lib.ItoaMem
import Derived.Lib.AtoiTie
namespace Go.Proofs.YtajlpicdkdeceaaDoor
open Go.RowKit
set_option linter.unusedSimpArgs false
set_option linter.unusedVariables false
open Go.Lib

/-! ### instructions, plainly -/
structure IN where
  op : Int
  a : Int
  b : Int
  c : Int
  im : Int
  deriving DecidableEq
def IN.f (i : IN) : Nat → Int
  | 0 => i.op
  | 1 => i.a
  | 2 => i.b
  | 3 => i.c
  | _ => i.im
def wd : Nat → List UInt8
  | 0 => [104, 97, 108, 116]
  | 1 => [105, 109, 109]
  | 2 => [97, 100, 100]
  | 3 => [115, 117, 98]
  | 4 => [97, 110, 100]
  | 5 => [120, 111, 114]
  | 6 => [108, 111, 97, 100]
  | 7 => [115, 116, 111, 114, 101]
  | 8 => [106, 117, 109, 112]
  | 9 => [122, 101, 114, 111]
  | 10 => [108, 101, 115, 115]
  | _ => [116, 114, 97, 112]
def nm : Nat → List UInt8
  | 0 => []
  | 1 => [97, 105]
  | 2 => [97, 98, 99]
  | 3 => [97, 98, 99]
  | 4 => [97, 98, 99]
  | 5 => [97, 98, 99]
  | 6 => [97, 98, 105]
  | 7 => [97, 98, 105]
  | 8 => [105]
  | 9 => [97, 105]
  | 10 => [97, 98, 99]
  | _ => [105]
def ch : Nat → UInt8
  | 0 => 95
  | 1 => 97
  | 2 => 98
  | 3 => 99
  | _ => 105
def lim : Nat → Nat
  | 0 => 8
  | 4 => 16
  | _ => 3
def has (o k : Nat) : Bool := decide (0 ≤ indexByte (nm o) (ch k))
def good (o : Nat) (i : IN) (k : Nat) : Bool := decide (0 ≤ i.f k ∧ i.f k < 2 ^ lim k ∧ (0 < k → i.f k ≠ 0 → has o k = true))
def right (i : IN) : Bool := decide (0 ≤ i.op ∧ i.op ≤ 11) && (List.range 5).all (good i.op.toNat i)
def arg (i : IN) (k : Nat) : List UInt8 := if k = 4 then decDigits (i.f k).toNat else 114 :: decDigits (i.f k).toNat
def named (o k : Nat) : Bool := decide (k ≠ 0) && has o k
def argsTo (i : IN) (k : Nat) : List (List UInt8) := ((List.range k).filter (named i.op.toNat)).map (arg i)
def parts (i : IN) : List (List UInt8) := wd i.op.toNat :: argsTo i 5
def text (i : IN) : List UInt8 := join (parts i) [32]
def word (i : IN) : Int := i.op + 256 * i.a + 2048 * i.b + 16384 * i.c + 16777216 * i.im
def cutW (w : Int) : IN := ⟨w % 256, w / 256 % 8, w / 2048 % 8, w / 16384 % 8, w / 16777216 % 65536⟩
def decW (w : Int) : Option IN := if right (cutW w) = true ∧ word (cutW w) = w then some (cutW w) else none

theorem right_bd {i : IN} (h : right i = true) : (0 ≤ i.op ∧ i.op ≤ 11) ∧ (0 ≤ i.a ∧ i.a < 8) ∧ (0 ≤ i.b ∧ i.b < 8) ∧ (0 ≤ i.c ∧ i.c < 8) ∧ 0 ≤ i.im ∧ i.im < 65536 := by
  unfold right at h
  simp only [Bool.and_eq_true, decide_eq_true_eq, List.all_eq_true, List.mem_range] at h
  obtain ⟨h0, h1⟩ := h
  have g : ∀ k, k < 5 → 0 ≤ i.f k ∧ i.f k < 2 ^ lim k := fun k hk => by
    have := h1 k hk
    unfold good at this
    simp only [decide_eq_true_eq] at this
    exact ⟨this.1, this.2.1⟩
  exact ⟨h0, by simpa [IN.f, lim] using g 1 (by omega), by simpa [IN.f, lim] using g 2 (by omega), by simpa [IN.f, lim] using g 3 (by omega), by simpa [IN.f, lim] using g 4 (by omega)⟩
theorem right_named {i : IN} (h : right i = true) {k : Nat} (h0 : 0 < k) (h5 : k < 5) (hn : has i.op.toNat k = false) : i.f k = 0 := by
  unfold right at h
  simp only [Bool.and_eq_true, decide_eq_true_eq, List.all_eq_true, List.mem_range] at h
  have := h.2 k h5
  unfold good at this
  simp only [decide_eq_true_eq] at this
  apply Classical.byContradiction
  intro hx
  rw [this.2.2 h0 hx] at hn
  cases hn
/-! ### words -/
theorem cut_word {i : IN} (h : right i = true) : cutW (word i) = i := by
  obtain ⟨h0, h1, h2, h3, h4⟩ := right_bd h
  obtain ⟨op, a, b, c, im⟩ := i
  simp only [cutW, word] at *
  simp only [IN.mk.injEq]
  refine ⟨?_, ?_, ?_, ?_, ?_⟩ <;> omega
theorem decW_word {i : IN} (h : right i = true) : decW (word i) = some i := by
  unfold decW
  rw [cut_word h, if_pos ⟨h, rfl⟩]
theorem word_inj {i j : IN} (hi : right i = true) (hj : right j = true) (h : word i = word j) : i = j := by
  rw [← cut_word hi, ← cut_word hj, h]
theorem word_bd {i : IN} (h : right i = true) : 0 ≤ word i ∧ word i ≤ 18446744073709551615 := by
  obtain ⟨h0, h1, h2, h3, h4⟩ := right_bd h
  unfold word
  omega
/-! ### a text cut at its spaces -/
def spl : List UInt8 → List (List UInt8)
  | [] => [[]]
  | c :: r => if c = 32 then [] :: spl r else match spl r with
    | x :: t => (c :: x) :: t
    | [] => [[c]]
theorem spl_ne (s : List UInt8) : spl s ≠ [] := by
  cases s with
  | nil => simp [spl]
  | cons c r =>
    rw [spl]
    split
    · simp
    · split <;> simp
theorem spl_none : ∀ {s : List UInt8}, (∀ c ∈ s, c ≠ 32) → spl s = [s]
  | [], _ => rfl
  | c :: r, h => by
    rw [spl, if_neg (h c (by simp)), spl_none (s := r) (fun x hx => h x (by simp [hx]))]
theorem spl_cut : ∀ {x : List UInt8} (r : List UInt8), (∀ c ∈ x, c ≠ 32) → spl (x ++ 32 :: r) = x :: spl r
  | [], r, _ => by simp [spl]
  | c :: x, r, h => by
    rw [List.cons_append, spl, if_neg (h c (by simp)), spl_cut (x := x) r (fun y hy => h y (by simp [hy]))]
theorem spl_join : ∀ {xs : List (List UInt8)}, xs ≠ [] → (∀ x ∈ xs, ∀ c ∈ x, c ≠ 32) → spl (join xs [32]) = xs
  | [], h, _ => absurd rfl h
  | [x], _, h => by rw [join_one]; exact spl_none (h x (by simp))
  | x :: y :: r, _, h => by
    have e : join (x :: y :: r) [32] = x ++ 32 :: join (y :: r) [32] := by
      rw [join_cons, join_cons]
      simp [joinTail]
    rw [e, spl_cut _ (h x (by simp)), spl_join (xs := y :: r) (by simp) (fun z hz => h z (by simp [hz]))]
theorem index32 (s : List UInt8) : index s [32] = indexByte s 32 := index_one s 32
theorem spl_split : ∀ (n : Nat) (s : List UInt8), s.length = n → splitK [32] 0 (count s [32]) s = spl s ∧ (spl s).length = count s [32] + 1 := by
  intro n
  induction n using Nat.strongRecOn with
  | _ n ih =>
    intro s hs
    rcases Int.lt_or_le (index s [32]) 0 with h0 | h0
    · have e : index s [32] = -1 := by have := index_ge s [32]; omega
      have hno := indexByte_none ((index32 s).symm.trans e)
      have hs2 : ∀ c ∈ s, c ≠ 32 := fun c hc e2 => by
        obtain ⟨k, hk⟩ := List.getElem?_of_mem hc
        exact hno k (e2 ▸ hk)
      rw [count_miss e, spl_none hs2]
      exact ⟨rfl, rfl⟩
    · obtain ⟨o, ho⟩ := Int.eq_ofNat_of_zero_le h0
      obtain ⟨h1, h2⟩ := indexByte_some ((index32 s).symm.trans ho)
      obtain ⟨hlt, h3⟩ := List.getElem?_eq_some_iff.1 h1
      have e : s = s.take o ++ 32 :: s.drop (o + 1) := by
        conv => lhs; rw [← List.take_append_drop o s, List.drop_eq_getElem_cons hlt, h3]
      have ht : ∀ c ∈ s.take o, c ≠ 32 := fun c hc e2 => by
        obtain ⟨k, hk⟩ := List.getElem?_of_mem hc
        rw [List.getElem?_take] at hk
        split at hk
        · rename_i hko
          exact h2 k hko (e2 ▸ hk)
        · cases hk
      have hc : count s [32] = 1 + count (s.drop (o + 1)) [32] := count_hit (by simp) ho
      obtain ⟨g1, g2⟩ := ih (s.drop (o + 1)).length (by rw [List.length_drop]; omega) (s.drop (o + 1)) rfl
      have hsp : spl s = s.take o :: spl (s.drop (o + 1)) := by
        conv => lhs; rw [e]
        exact spl_cut _ ht
      rw [hc, hsp, Nat.add_comm 1, splitK, ho]
      refine ⟨?_, by simp [g2]⟩
      have hne : ¬ ((o : Int) == -1) = true := by simp
      rw [if_neg hne]
      simp only [Int.toNat_natCast, Nat.add_zero, List.length_singleton]
      rw [g1]
/-! ### numerals -/
theorem decDigits_all (n : Nat) : ∀ c ∈ decDigits n, ∃ d, d < 10 ∧ c = UInt8.ofNat (48 + d) := by
  induction n using Nat.strongRecOn with
  | _ n ih =>
    intro c hc
    rw [decDigits] at hc
    split at hc
    · rename_i h
      exact ⟨n, h, List.mem_singleton.1 hc⟩
    · rename_i h
      rcases List.mem_append.1 hc with hc | hc
      · exact ih (n / 10) (by omega) c hc
      · exact ⟨n % 10, by omega, List.mem_singleton.1 hc⟩
theorem dig_ne {c : UInt8} (h : ∃ d, d < 10 ∧ c = UInt8.ofNat (48 + d)) : 48 ≤ c.toNat ∧ c.toNat ≤ 57 := by
  obtain ⟨d, hd, rfl⟩ := h
  simp
  omega
theorem decDigits_ne (n : Nat) : decDigits n ≠ [] := by
  rw [decDigits]
  split <;> simp
theorem decFrom_append : ∀ (l r : List UInt8) (acc : Nat), decFrom acc (l ++ r) = (decFrom acc l).bind fun m => decFrom m r
  | [], r, acc => rfl
  | c :: l, r, acc => by
    simp only [List.cons_append, decFrom]
    cases digitVal c with
    | none => rfl
    | some d => exact decFrom_append l r _
theorem decFrom_dec (n : Nat) : decFrom 0 (decDigits n) = some n := by
  induction n using Nat.strongRecOn with
  | _ n ih =>
    rw [decDigits]
    split
    · rename_i h
      have e : (UInt8.ofNat (48 + n)).toNat = 48 + n := by simp; omega
      simp only [decFrom, digitVal, e]
      rw [if_pos (by omega)]
      simp
    · rename_i h
      have e : (UInt8.ofNat (48 + n % 10)).toNat = 48 + n % 10 := by simp; omega
      rw [decFrom_append, ih (n / 10) (by omega)]
      simp only [Option.bind_some, decFrom, digitVal, e]
      rw [if_pos (by omega)]
      simp
      omega
theorem decNat_dec (n : Nat) : decNat (decDigits n) = some n := by
  unfold decNat
  rw [if_neg (by simp [decDigits_ne]), decFrom_dec]
theorem dec_inj {m n : Nat} (h : decDigits m = decDigits n) : m = n := by
  have := decFrom_dec m
  rw [h, decFrom_dec] at this
  exact (Option.some.inj this).symm
theorem nDigits_bd (n : Nat) (h : n < 100000) : (decDigits n).length ≤ 5 := by
  rw [decDigits_length]
  rcases Nat.lt_or_ge n 10 with h1 | h1
  · rw [nDigits_small h1]; omega
  · rw [nDigits_big (by omega)]
    rcases Nat.lt_or_ge (n / 10) 10 with h2 | h2
    · rw [nDigits_small h2]; omega
    · rw [nDigits_big (by omega)]
      rcases Nat.lt_or_ge (n / 10 / 10) 10 with h3 | h3
      · rw [nDigits_small h3]; omega
      · rw [nDigits_big (by omega)]
        rcases Nat.lt_or_ge (n / 10 / 10 / 10) 10 with h4 | h4
        · rw [nDigits_small h4]; omega
        · rw [nDigits_big (by omega), nDigits_small (by omega)]; omega
theorem atoi_dec (n : Nat) (h : n < 100000) : atoiAll (decDigits n) = .ok (n : Int) := by
  rw [atoiAll_short _ (by have := nDigits_bd n h; omega)]
  have hne := decDigits_ne n
  have hall := decDigits_all n
  have hd := decNat_dec n
  cases hl : decDigits n with
  | nil => exact absurd hl hne
  | cons c r =>
    rw [hl] at hall hd
    have hc := dig_ne (hall c (by simp))
    have h45 : ¬ (c == 45) = true := by
      intro e
      have : c = 45 := by simpa using e
      subst this
      simp at hc
    have h43 : ¬ (c == 43) = true := by
      intro e
      have : c = 43 := by simpa using e
      subst this
      simp at hc
    rw [atoi, if_neg h45, if_neg h43, hd]
    rfl
theorem trim_dec (n : Nat) : trimPrefix (decDigits n) [114] = decDigits n := by
  unfold trimPrefix hasPrefix
  have hall := decDigits_all n
  cases hl : decDigits n with
  | nil => rfl
  | cons c r =>
    rw [hl] at hall
    have hc := dig_ne (hall c (by simp))
    have : ¬ (114 : UInt8) = c := fun e => by subst e; simp at hc
    simp [List.isPrefixOf, this]
theorem trim_r (l : List UInt8) : trimPrefix (114 :: l) [114] = l := by
  simp [trimPrefix, hasPrefix, List.isPrefixOf]
/-! ### texts -/
theorem wd_ok : ∀ o, ∀ c ∈ wd o, c ≠ 32 := by
  intro o c hc e
  subst e
  have : (32 : UInt8) ∉ wd o := by
    match o with
    | 0 | 1 | 2 | 3 | 4 | 5 | 6 | 7 | 8 | 9 | 10 => decide
    | _ + 11 => show (32 : UInt8) ∉ [116, 114, 97, 112]; decide
  exact this hc
theorem arg_ok (i : IN) (k : Nat) : ∀ c ∈ arg i k, c ≠ 32 := by
  have hd : ∀ n, ∀ c ∈ decDigits n, c ≠ 32 := fun n c hc e => by
    subst e
    have := dig_ne (decDigits_all n _ hc)
    simp at this
  intro c hc
  unfold arg at hc
  split at hc
  · exact hd _ c hc
  · rcases List.mem_cons.1 hc with rfl | hc
    · decide
    · exact hd _ c hc
theorem spl_text (i : IN) : spl (text i) = parts i := by
  refine spl_join (by simp [parts]) (fun x hx => ?_)
  simp only [parts, List.mem_cons, argsTo, List.mem_map] at hx
  rcases hx with rfl | ⟨k, _, rfl⟩
  · exact wd_ok _
  · exact arg_ok i k
theorem wd_inj (m n : Nat) (hm : m < 12) (hn : n < 12) (h : wd m = wd n) : m = n := by
  have key : ∀ m : Fin 12, ∀ n : Fin 12, wd m.val = wd n.val → m = n := by decide
  have := key ⟨m, hm⟩ ⟨n, hn⟩ h
  exact congrArg Fin.val this
theorem op_nat {i : IN} (h : right i = true) : ∃ o : Nat, i.op = o ∧ o < 12 := by
  obtain ⟨⟨h0, h1⟩, _⟩ := right_bd h
  obtain ⟨o, ho⟩ := Int.eq_ofNat_of_zero_le h0
  exact ⟨o, ho, by omega⟩
theorem text_inj {i j : IN} (hi : right i = true) (hj : right j = true) (h : text i = text j) : i = j := by
  have hp : parts i = parts j := by rw [← spl_text, ← spl_text, h]
  obtain ⟨m, hm, hm2⟩ := op_nat hi
  obtain ⟨n, hn, hn2⟩ := op_nat hj
  simp only [parts, List.cons.injEq, argsTo] at hp
  obtain ⟨h1, h2⟩ := hp
  have hmn : m = n := wd_inj m n hm2 hn2 (by simpa [hm, hn] using h1)
  subst hmn
  have hop : i.op = j.op := by rw [hm, hn]
  rw [hop] at h2
  have hmem : ∀ k, k ∈ (List.range 5).filter (named j.op.toNat) → arg i k = arg j k := List.map_inj_left.1 h2
  have hf : ∀ k, 0 < k → k < 5 → 0 ≤ i.f k → 0 ≤ j.f k → i.f k = j.f k := fun k h0 h5 p1 p2 => by
    cases hh : has j.op.toNat k with
    | false => rw [right_named hi h0 h5 (by rw [hop]; exact hh), right_named hj h0 h5 hh]
    | true =>
      have := hmem k (by rw [List.mem_filter]; exact ⟨List.mem_range.2 h5, by simp [named, hh]; omega⟩)
      unfold arg at this
      split at this
      · have := dec_inj this; omega
      · have := dec_inj (List.cons.inj this).2; omega
  obtain ⟨_, a1, a2, a3, a4⟩ := right_bd hi
  obtain ⟨_, b1, b2, b3, b4⟩ := right_bd hj
  have f1 := hf 1 (by omega) (by omega) a1.1 b1.1
  have f2 := hf 2 (by omega) (by omega) a2.1 b2.1
  have f3 := hf 3 (by omega) (by omega) a3.1 b3.1
  have f4 := hf 4 (by omega) (by omega) a4.1 b4.1
  obtain ⟨op, a, b, c, im⟩ := i
  obtain ⟨op', a', b', c', im'⟩ := j
  simp only [IN.f] at f1 f2 f3 f4 hop
  subst f1 f2 f3 f4 hop
  rfl
open Classical in
noncomputable def decT (s : List UInt8) : Option IN := if h : ∃ i, right i = true ∧ text i = s then some (Classical.choose h) else none
theorem decT_some {i : IN} {s : List UInt8} (h : right i = true) (ht : text i = s) : decT s = some i := by
  have hx : ∃ i, right i = true ∧ text i = s := ⟨i, h, ht⟩
  unfold decT
  rw [dif_pos hx]
  obtain ⟨c1, c2⟩ := Classical.choose_spec hx
  rw [text_inj c1 h (c2.trans ht.symm)]
theorem decT_none {s : List UInt8} (h : ∀ i, right i = true → text i ≠ s) : decT s = none := by
  unfold decT
  rw [dif_neg (fun ⟨i, h1, h2⟩ => h i h1 h2)]
theorem decT_ok {s : List UInt8} {i : IN} (h : decT s = some i) : right i = true ∧ text i = s := by
  unfold decT at h
  split at h
  · rename_i hx
    obtain ⟨c1, c2⟩ := Classical.choose_spec hx
    rw [Option.some.inj h] at c1 c2
    exact ⟨c1, c2⟩
  · cases h
end Go.Proofs.YtajlpicdkdeceaaDoor
