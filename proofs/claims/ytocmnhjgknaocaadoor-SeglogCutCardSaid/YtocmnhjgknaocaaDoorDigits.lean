import Derived.Test.YtocmnhjgknaocaaDoorLog1
set_option linter.unusedVariables false
set_option linter.unusedSimpArgs false
namespace Go.Proofs.YtocmnhjgknaocaaDoor
open Go.RowKit Tb

theorem parseM_snoc (M : Nat) (c : UInt8) : ∀ (l : List UInt8) (acc u : Nat), Lib.parseUintM M acc l = .ok u → 48 ≤ c.toNat → c.toNat ≤ 57 → u < 1844674407370955162 → u * 10 + (c.toNat - 48) ≤ M → Lib.parseUintM M acc (l ++ [c]) = .ok (u * 10 + (c.toNat - 48))
  | [], acc, u, h, h1, h2, h3, h4 => by
    injection h with h
    subst h
    simp only [List.nil_append]
    unfold Lib.parseUintM
    rw [if_pos ⟨h1, h2⟩, if_neg (by omega), if_neg (by omega)]
    rfl
  | d :: l, acc, u, h, h1, h2, h3, h4 => by
    rw [List.cons_append]
    unfold Lib.parseUintM at h ⊢
    split at h
    · rename_i hd
      rw [if_pos hd]
      split at h
      · cases h
      · rename_i ha
        rw [if_neg ha]
        split at h
        · cases h
        · rename_i hb
          rw [if_neg hb]
          exact parseM_snoc M c l _ u h h1 h2 h3 h4
    · cases h
theorem dig_toNat {m : Nat} (h : m < 10) : (UInt8.ofNat (48 + m)).toNat = 48 + m := by rw [UInt8.toNat_ofNat']; omega
theorem parse_dec (n : Nat) (hn : n < 18446744073709551616) : Lib.parseUintM (2 ^ 64 - 1) 0 (Lib.decDigits n) = .ok n := by
  induction n using Nat.strongRecOn with
  | _ n ih =>
    by_cases h : n < 10
    · rw [Lib.decDigits_one h]
      have h0 := parseM_snoc (2 ^ 64 - 1) (UInt8.ofNat (48 + n)) [] 0 0 rfl (by rw [dig_toNat h]; omega) (by rw [dig_toNat h]; omega) (by decide) (by rw [dig_toNat h]; omega)
      rw [dig_toNat h] at h0
      simpa using h0
    · rw [Lib.decDigits, dif_neg h]
      have hm : n % 10 < 10 := Nat.mod_lt _ (by decide)
      have h0 := parseM_snoc (2 ^ 64 - 1) (UInt8.ofNat (48 + n % 10)) (Lib.decDigits (n / 10)) 0 (n / 10) (ih (n / 10) (by omega) (by omega)) (by rw [dig_toNat hm]; omega) (by rw [dig_toNat hm]; omega) (by omega) (by rw [dig_toNat hm]; omega)
      rw [dig_toNat hm] at h0
      rw [h0]
      congr 1
      omega
theorem dec_ne (n : Nat) : Lib.decDigits n ≠ [] := by
  intro e
  have := Lib.decDigits_length n
  have := Lib.nDigits_pos n
  rw [e] at *
  simp at *
  omega
theorem parseB_dec (n : Nat) (hn : n < 18446744073709551616) : Lib.parseUintB 64 (Lib.decDigits n) = .ok n := by
  unfold Lib.parseUintB
  rw [if_neg (dec_ne n)]
  exact parse_dec n hn
theorem dec_chars (n : Nat) : ∀ c ∈ Lib.decDigits n, okChar c = true := by
  induction n using Nat.strongRecOn with
  | _ n ih =>
    have one : ∀ m, m < 10 → okChar (UInt8.ofNat (48 + m)) = true := fun m hm => by
      unfold okChar
      rw [dig_toNat hm, decide_eq_true (show 48 ≤ 48 + m by omega), decide_eq_true (show 48 + m ≤ 57 by omega)]
      simp
    intro c hc
    by_cases h : n < 10
    · rw [Lib.decDigits_one h, List.mem_singleton] at hc
      rw [hc]
      exact one n h
    · rw [Lib.decDigits, dif_neg h, List.mem_append, List.mem_singleton] at hc
      rcases hc with hc | hc
      · exact ih (n / 10) (by omega) c hc
      · rw [hc]; exact one _ (Nat.mod_lt _ (by decide))
theorem dec_len {n : Nat} (h : n < 10000000000) : (Lib.decDigits n).length ≤ 10 := by
  rw [Lib.decDigits_length]
  by_cases h0 : n = 0
  · subst h0; rw [Lib.nDigits_small (by decide)]; decide
  · have key : ∀ (k u : Nat), u < 10 ^ (k + 1) → Lib.nDigits u ≤ k + 1 := by
      intro k
      induction k with
      | zero => intro u hu; rw [Lib.nDigits_small (by omega)]; omega
      | succ k ih =>
        intro u hu
        by_cases h10 : u < 10
        · rw [Lib.nDigits_small h10]; omega
        · rw [Lib.nDigits_big h10]
          have := ih (u / 10) (by rw [Nat.pow_succ] at hu; omega)
          omega
    exact key 9 n (by omega)
theorem dec_inj {a b : Nat} (ha : a < 18446744073709551616) (hb : b < 18446744073709551616) (h : Lib.decDigits a = Lib.decDigits b) : a = b := by
  have h1 := parse_dec a ha
  rw [h, parse_dec b hb] at h1
  injection h1 with h1
  exact h1.symm
theorem segName_inj {a b : Nat} (ha : a < 10000000000) (hb : b < 10000000000) (h : segName a = segName b) : a = b := by
  unfold segName at h
  injection h with _ h
  injection h with _ h
  exact dec_inj (by omega) (by omega) h
theorem nameOk_seg {n : Nat} (h : n < 10000000000) : nameOk (segName n) = true := by
  have hl := dec_len h
  unfold nameOk segName
  simp only [List.length_cons, List.all_cons, Bool.and_eq_true, decide_eq_true_eq, List.all_eq_true]
  refine ⟨⟨by omega, by omega⟩, by decide, by decide, dec_chars n⟩

end Go.Proofs.YtocmnhjgknaocaaDoor
