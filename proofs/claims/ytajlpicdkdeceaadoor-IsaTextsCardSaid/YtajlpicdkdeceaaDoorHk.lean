import Derived.Test.YtajlpicdkdeceaaDoorHj
namespace Go.Proofs.YtajlpicdkdeceaaDoor
open Go.RowKit
set_option linter.unusedSimpArgs false
set_option linter.unusedVariables false
attribute [local go_sem] ob_alloc ob_drew ob_drewN ob_setCell ob_setBlock objSet_cells obMap_map obClock_map isMapI_map keyI_mk findI_nil findI_cons lookRes_some lookRes_none lookRes_some' lookRes_none' setBlock_alloc mapPut
open Go.Lib

def numF (n : Int) : List UInt8 → Int
  | [] => n
  | c :: r => if c.toNat < 48 ∨ 57 < c.toNat ∨ 65535 < n then 99999 else numF (n * 10 + ((c.toNat : Int) - 48)) r
theorem num_bd : ∀ (l : List UInt8) (n : Int), 0 ≤ n → n ≤ 655359 → 0 ≤ numF n l ∧ numF n l ≤ 655359
  | [], n, h0, h1 => ⟨h0, h1⟩
  | c :: r, n, h0, h1 => by
    rw [numF]
    split
    · omega
    · exact num_bd r _ (by omega) (by omega)
theorem num_dec : ∀ (n : Nat), n ≤ 65535 → ∀ r, numF 0 (decDigits n ++ r) = numF n r := by
  intro n
  induction n using Nat.strongRecOn with
  | _ n ih =>
    intro hn r
    rw [decDigits.eq_1 n]
    split
    · rename_i h
      have e : (UInt8.ofNat (48 + n)).toNat = 48 + n := by simp; omega
      rw [List.singleton_append, numF, e, if_neg (by omega)]
      congr 1
      omega
    · rename_i h
      have e : (UInt8.ofNat (48 + n % 10)).toNat = 48 + n % 10 := by simp; omega
      rw [List.append_assoc, ih (n / 10) (by omega) (by omega), List.singleton_append, numF, e, if_neg (by omega)]
      congr 1
      omega
theorem num_of (n : Nat) (h : n ≤ 65535) : numF 0 (decDigits n) = n := by
  have := num_dec n h []
  rw [List.append_nil] at this
  rw [this]; rfl
set_option maxRecDepth 100000 in
set_option maxHeartbeats 2000000 in
theorem rNumber (w : World) (s : ByteArray) (hs : s.size ≤ 1000) : Calls Tryd.prog 32 #[.string s] w fun e w' => e = .returned (.int .i64 (numF 0 s.data.toList)) ∧ w' = w := by
  obtain ⟨L, hL⟩ : ∃ L, s.size = L := ⟨_, rfl⟩
  have hl : s.data.toList.length = L := by rw [← hL]; exact Array.length_toList
  rw [hL] at hs
  go_enter Tryd.func32, Tryd.ntmps32
  go_wp2_with fail
  go_loopg [3, 4] L (fun gn s3 s4 wr => ∃ (k : Nat) (N : Int), s3 = .int .i64 N ∧ s4 = .int .i64 k ∧ k ≤ L ∧ gn = L - k ∧ 0 ≤ N ∧ N ≤ 655359 ∧ numF 0 s.data.toList = numF N (s.data.toList.drop k) ∧ wr = w)
  case atStart => exact ⟨0, 0, rfl, rfl, by omega, rfl, by omega, by omega, rfl, rfl⟩
  case round =>
    obtain ⟨k, N, rfl, rfl, hk, rfl, hN0, hN1, hnf, rfl⟩ := hrel
    by_cases hlt : k < L
    · have hkl : (k : Int) < L := by omega
      have hks : k < s.size := by omega
      have hd : s.data.toList.drop k = s[k] :: s.data.toList.drop (k + 1) := by
        rw [List.drop_eq_getElem_cons (by omega)]
        rfl
      rw [hd, numF] at hnf
      obtain ⟨cn, hcn⟩ : ∃ cn, (s[k]'hks).toNat = cn := ⟨_, rfl⟩
      rw [hcn] at hnf
      have HNF := Lib.hid hnf
      clear hnf hd
      by_cases h1 : (cn : Int) < 48
      · have HE : Hid (numF 0 s.data.toList = 99999) := Lib.hid (by rw [HNF.out, if_pos (by omega)])
        go_wp2_with fail
        go_ret
        exact ⟨by rw [HE.out]; rfl, rfl⟩
      · by_cases h2 : (57 : Int) < cn
        · have HE : Hid (numF 0 s.data.toList = 99999) := Lib.hid (by rw [HNF.out, if_pos (by omega)])
          go_wp2_with fail
          go_ret
          exact ⟨by rw [HE.out]; rfl, rfl⟩
        · by_cases h3 : 65535 < N
          · have HE : Hid (numF 0 s.data.toList = 99999) := Lib.hid (by rw [HNF.out, if_pos (by omega)])
            go_wp2_with fail
            go_ret
            exact ⟨by rw [HE.out]; rfl, rfl⟩
          · have HE : Hid (numF 0 s.data.toList = numF (N * 10 + ((cn : Int) - 48)) (s.data.toList.drop (k + 1))) := Lib.hid (by rw [HNF.out, if_neg (by omega)])
            go_wp2_with fail
            go_roundg (L - (k + 1))
            case measure => omega
            case rel => exact ⟨k + 1, _, rfl, by go_num, by omega, rfl, by omega, by omega, HE.out, rfl⟩
    · obtain rfl : k = L := by omega
      have hE : numF 0 s.data.toList = N := by rw [hnf, List.drop_eq_nil_of_le (by omega)]; rfl
      have HE := Lib.hid hE
      clear hE hnf
      go_wp2_with fail
      go_ret
      exact ⟨by rw [HE.out]; rfl, rfl⟩
end Go.Proofs.YtajlpicdkdeceaaDoor
