namespace Go.Proofs.YtocmnhjgknaocaaDoor
namespace Tb

/-- One division of a sum. -/
def stepN (n : Nat) : Nat := if n % 2 = 1 then (n / 2) ^^^ 2197175160 else n / 2
def stepsN : Nat → Nat → Nat
  | 0, n => n
  | k + 1, n => stepsN k (stepN n)
def entryN (n : Nat) : Nat := stepsN 8 n
/-- One byte more. -/
def crcStep (s : Nat) (c : UInt8) : Nat := (s / 256) ^^^ entryN ((s % 256) ^^^ c.toNat)
def crcRaw (s : Nat) (b : List UInt8) : Nat := b.foldl crcStep s
def crcMore (s : Nat) (b : List UInt8) : Nat := 4294967295 - crcRaw (4294967295 - s) b
def crc (b : List UInt8) : Nat := crcMore 0 b
def four (n : Nat) : List UInt8 := [UInt8.ofNat n, UInt8.ofNat (n / 256), UInt8.ofNat (n / 65536), UInt8.ofNat (n / 16777216)]
def sumPut (b : List UInt8) : List UInt8 := b ++ four (crc b)
def sumCut (b : List UInt8) : Option (List UInt8) :=
  if b.length < 4 then none else if b.drop (b.length - 4) = four (crc (b.take (b.length - 4))) then some (b.take (b.length - 4)) else none

/-- Bytes as one number, the first one the lowest. -/
def numOf : List UInt8 → Nat
  | [] => 0
  | c :: l => c.toNat + 256 * numOf l

theorem xor_div2 (a b : Nat) : (a ^^^ b) / 2 = (a / 2) ^^^ (b / 2) := by
  apply Nat.eq_of_testBit_eq; intro i
  simp [Nat.testBit_div_two]

theorem xor_mod2 (a b : Nat) : (a ^^^ b) % 2 = (a % 2 + b % 2) % 2 := by
  have h := Nat.xor_mod_two_pow (a := a) (b := b) (n := 1)
  simp only [Nat.pow_one] at h
  rw [h]
  rcases Nat.mod_two_eq_zero_or_one a with ha | ha <;> rcases Nat.mod_two_eq_zero_or_one b with hb | hb <;> simp [ha, hb]

theorem stepN_xor (a b : Nat) : stepN (a ^^^ b) = stepN a ^^^ stepN b := by
  have h2 := xor_div2 a b
  have hm := xor_mod2 a b
  unfold stepN
  rw [h2, hm]
  rcases Nat.mod_two_eq_zero_or_one a with ha | ha <;> rcases Nat.mod_two_eq_zero_or_one b with hb | hb <;> simp only [ha, hb] <;> simp
  · rw [Nat.xor_assoc]
  · rw [Nat.xor_assoc, Nat.xor_assoc, Nat.xor_comm (b/2)]
  · rw [Nat.xor_assoc, ← Nat.xor_assoc 2197175160, Nat.xor_comm 2197175160, Nat.xor_assoc (b/2), Nat.xor_self, Nat.xor_zero]

theorem stepsN_xor (k : Nat) : ∀ a b, stepsN k (a ^^^ b) = stepsN k a ^^^ stepsN k b := by
  induction k with
  | zero => intro a b; rfl
  | succ k ih => intro a b; simp only [stepsN, stepN_xor, ih]

theorem xor_zero {a b : Nat} (h : a ^^^ b = 0) : a = b := by
  have h2 : a ^^^ b ^^^ b = b := by rw [h, Nat.zero_xor]
  rwa [Nat.xor_assoc, Nat.xor_self, Nat.xor_zero] at h2
theorem stepN_zero : stepN 0 = 0 := by decide
theorem stepsN_zero (k : Nat) : stepsN k 0 = 0 := by
  induction k with
  | zero => rfl
  | succ k ih => simp only [stepsN, stepN_zero, ih]

theorem stepN_lt {n : Nat} (h : n < 2 ^ 32) : stepN n < 2 ^ 32 := by
  unfold stepN; split
  · exact Nat.xor_lt_two_pow (by omega) (by decide)
  · omega
theorem stepsN_lt (k : Nat) : ∀ {n : Nat}, n < 2 ^ 32 → stepsN k n < 2 ^ 32 := by
  induction k with
  | zero => intro n h; exact h
  | succ k ih => intro n h; exact ih (stepN_lt h)

theorem stepN_ne {n : Nat} (h : n < 2 ^ 32) (h0 : n ≠ 0) : stepN n ≠ 0 := by
  unfold stepN; split
  · intro h1
    have := xor_zero h1
    omega
  · omega
theorem stepsN_ne (k : Nat) : ∀ {n : Nat}, n < 2 ^ 32 → n ≠ 0 → stepsN k n ≠ 0 := by
  induction k with
  | zero => intro n _ h; exact h
  | succ k ih => intro n h h0; exact ih (stepN_lt h) (stepN_ne h h0)

theorem stepN_double (y : Nat) : stepN (2 * y) = y := by
  unfold stepN; rw [if_neg (by omega)]; omega
theorem stepsN_shift (k : Nat) : ∀ y, stepsN k (2 ^ k * y) = y := by
  induction k with
  | zero => intro y; simp [stepsN]
  | succ k ih =>
    intro y
    have : 2 ^ (k + 1) * y = 2 * (2 ^ k * y) := by rw [Nat.pow_succ, Nat.mul_comm (2 ^ k) 2, Nat.mul_assoc]
    rw [stepsN, this, stepN_double, ih]
theorem stepsN_add (j k : Nat) : ∀ n, stepsN (j + k) n = stepsN k (stepsN j n) := by
  induction j with
  | zero => intro n; simp [stepsN]
  | succ j ih => intro n; rw [Nat.succ_add]; simp only [stepsN]; exact ih _

/-- A sum by its two parts: the lowest byte, and what is above. -/
theorem xor_join {i x y : Nat} (h : y < 2 ^ i) : (2 ^ i * x) ^^^ y = 2 ^ i * x + y := by
  rw [Nat.two_pow_add_eq_or_of_lt h]
  apply Nat.eq_of_testBit_eq; intro j
  simp only [Nat.testBit_xor, Nat.testBit_or, Nat.testBit_two_pow_mul]
  by_cases hj : i ≤ j
  · have : y.testBit j = false := Nat.testBit_lt_two_pow (Nat.lt_of_lt_of_le h (Nat.pow_le_pow_right (by decide) hj))
    simp [hj, this]
  · simp [hj]

theorem crcStep_eq (s : Nat) (c : UInt8) : crcStep s c = entryN (s ^^^ c.toNat) := by
  have hs : s = (2 ^ 8 * (s / 256)) ^^^ (s % 256) := by rw [xor_join (Nat.mod_lt _ (by decide))]; omega
  have h : s ^^^ c.toNat = (2 ^ 8 * (s / 256)) ^^^ ((s % 256) ^^^ c.toNat) := by
    conv => lhs; rw [hs]
    rw [Nat.xor_assoc]
  rw [h, entryN, stepsN_xor, stepsN_shift]; rfl

theorem crcRaw_num (b : List UInt8) : ∀ s, crcRaw s b = stepsN (8 * b.length) (s ^^^ numOf b) := by
  induction b with
  | nil => intro s; simp [crcRaw, numOf, stepsN]
  | cons c l ih =>
    intro s
    have h1 : numOf (c :: l) = (2 ^ 8 * numOf l) ^^^ c.toNat := by rw [xor_join (by have := c.toNat_lt; omega)]; simp [numOf]; omega
    have h2 : 8 * (c :: l).length = 8 + 8 * l.length := by simp; omega
    have h3 : s ^^^ numOf (c :: l) = (2 ^ 8 * numOf l) ^^^ (s ^^^ c.toNat) := by
      rw [h1, ← Nat.xor_assoc, Nat.xor_comm s, Nat.xor_assoc]
    show crcRaw (crcStep s c) l = _
    rw [h2, stepsN_add, h3, stepsN_xor, stepsN_shift, ih, crcStep_eq, entryN, Nat.xor_comm]

theorem numOf_lt (b : List UInt8) : numOf b < 2 ^ (8 * b.length) := by
  induction b with
  | nil => simp [numOf]
  | cons c l ih =>
    have := c.toNat_lt
    have h : 2 ^ (8 * (c :: l).length) = 256 * 2 ^ (8 * l.length) := by
      rw [List.length_cons, Nat.mul_add, Nat.pow_add]; omega
    rw [h, numOf]; omega

theorem numOf_append (a b : List UInt8) : numOf (a ++ b) = numOf a + 2 ^ (8 * a.length) * numOf b := by
  induction a with
  | nil => simp [numOf]
  | cons c l ih =>
    have h : 2 ^ (8 * (c :: l).length) = 256 * 2 ^ (8 * l.length) := by
      rw [List.length_cons, Nat.mul_add, Nat.pow_add]; omega
    rw [List.cons_append, numOf, numOf, ih, h, Nat.mul_add, Nat.mul_assoc]; omega

theorem numOf_inj : ∀ (a b : List UInt8), a.length = b.length → numOf a = numOf b → a = b
  | [], [], _, _ => rfl
  | [], _ :: _, h, _ => by simp at h
  | _ :: _, [], h, _ => by simp at h
  | c :: l, d :: m, h, e => by
    have hc := c.toNat_lt
    have hd := d.toNat_lt
    simp only [numOf] at e
    have e1 : c.toNat = d.toNat := by omega
    have e2 : numOf l = numOf m := by omega
    rw [UInt8.toNat_inj.1 e1, numOf_inj l m (by simpa using h) e2]

theorem four_length (n : Nat) : (four n).length = 4 := rfl
theorem numOf_four {n : Nat} (h : n < 2 ^ 32) : numOf (four n) = n := by
  simp only [four, numOf, UInt8.toNat_ofNat']
  omega

theorem crcRaw_lt {s : Nat} (b : List UInt8) (h : s < 2 ^ 32) : crcRaw s b < 2 ^ 32 := by
  induction b generalizing s with
  | nil => exact h
  | cons c l ih =>
    refine ih ?_
    rw [crcStep_eq]
    exact stepsN_lt 8 (Nat.xor_lt_two_pow h (by have := c.toNat_lt; omega))

theorem not_eq_xor {s : Nat} (h : s < 2 ^ 32) : 4294967295 - s = s ^^^ 4294967295 := by
  apply Nat.eq_of_testBit_eq; intro i
  have e : 4294967295 - s = 2 ^ 32 - (s + 1) := by omega
  rw [e, Nat.testBit_two_pow_sub_succ h, Nat.testBit_xor]
  have : (4294967295 : Nat) = 2 ^ 32 - 1 := rfl
  rw [this, Nat.testBit_two_pow_sub_one]
  by_cases hi : i < 32
  · simp [hi]
  · simp [hi, Nat.testBit_lt_two_pow (Nat.lt_of_lt_of_le h (Nat.pow_le_pow_right (by decide) (by omega : 32 ≤ i)))]

/-- Bytes are a Put of something. -/
def sumOk (b : List UInt8) : Prop := 4 ≤ b.length ∧ b.drop (b.length - 4) = four (crc (b.take (b.length - 4)))
instance (b : List UInt8) : Decidable (sumOk b) := by unfold sumOk; infer_instance

theorem crcRaw_append (s : Nat) (a b : List UInt8) : crcRaw s (a ++ b) = crcRaw (crcRaw s a) b := by simp [crcRaw]

theorem sumOk_raw (b : List UInt8) (h4 : 4 ≤ b.length) : sumOk b ↔ crcRaw 4294967295 b = stepsN 32 4294967295 := by
  have hb : b = b.take (b.length - 4) ++ b.drop (b.length - 4) := (List.take_append_drop _ _).symm
  have hs : crcRaw 4294967295 (b.take (b.length - 4)) < 2 ^ 32 := crcRaw_lt _ (by decide)
  have ht : (b.drop (b.length - 4)).length = 4 := by simp; omega
  have hlt := numOf_lt (b.drop (b.length - 4))
  rw [ht] at hlt
  conv => rhs; rw [hb]
  rw [crcRaw_append, crcRaw_num (b.drop (b.length - 4)), ht]
  unfold sumOk crc crcMore
  simp only [h4, true_and, Nat.sub_zero]
  generalize crcRaw 4294967295 (b.take (b.length - 4)) = s at *
  generalize b.drop (b.length - 4) = t at *
  rw [not_eq_xor hs]
  have hx : s ^^^ 4294967295 < 2 ^ 32 := Nat.xor_lt_two_pow hs (by decide)
  constructor
  · intro e
    rw [e, numOf_four hx, ← Nat.xor_assoc, Nat.xor_self, Nat.zero_xor]
  · intro e
    have e0 : stepsN 32 (s ^^^ numOf t ^^^ 4294967295) = 0 := by rw [stepsN_xor, e, Nat.xor_self]
    have e1 : s ^^^ numOf t ^^^ 4294967295 = 0 := by
      by_cases h0 : s ^^^ numOf t ^^^ 4294967295 = 0
      · exact h0
      · exact absurd e0 (stepsN_ne 32 (Nat.xor_lt_two_pow (Nat.xor_lt_two_pow hs (by omega)) (by decide)) h0)
    have e2 : numOf t = s ^^^ 4294967295 := by
      have := xor_zero e1
      rw [← this, ← Nat.xor_assoc, Nat.xor_self, Nat.zero_xor]
    exact numOf_inj _ _ ht (by rw [e2, numOf_four hx])

/-- What is turned lies within 32 bits, one behind the other. -/
def Burst (x : Nat) : Prop := ∃ W p, x = 2 ^ p * W ∧ W < 2 ^ 32

theorem Burst.div {x : Nat} (h : Burst x) (k : Nat) : Burst (x / 2 ^ k) := by
  obtain ⟨W, p, rfl, hW⟩ := h
  by_cases hk : k ≤ p
  · refine ⟨W, p - k, ?_, hW⟩
    have : 2 ^ p * W = 2 ^ k * (2 ^ (p - k) * W) := by rw [← Nat.mul_assoc, ← Nat.pow_add]; congr 2; omega
    rw [this, Nat.mul_div_cancel_left _ (Nat.two_pow_pos k)]
  · refine ⟨W / 2 ^ (k - p), 0, ?_, Nat.lt_of_le_of_lt (Nat.div_le_self _ _) hW⟩
    have : 2 ^ k = 2 ^ p * 2 ^ (k - p) := by rw [← Nat.pow_add]; congr 1; omega
    rw [this, Nat.mul_div_mul_left _ _ (Nat.two_pow_pos p)]; simp
theorem Burst.mod {x : Nat} (h : Burst x) (k : Nat) : Burst (x % 2 ^ k) := by
  obtain ⟨W, p, rfl, hW⟩ := h
  by_cases hk : k ≤ p
  · refine ⟨0, 0, ?_, by decide⟩
    have : 2 ^ p * W = 2 ^ k * (2 ^ (p - k) * W) := by rw [← Nat.mul_assoc, ← Nat.pow_add]; congr 2; omega
    rw [this, Nat.mul_mod_right]
  · refine ⟨W % 2 ^ (k - p), p, ?_, Nat.lt_of_le_of_lt (Nat.mod_le _ _) hW⟩
    have : 2 ^ k = 2 ^ p * 2 ^ (k - p) := by rw [← Nat.pow_add]; congr 1; omega
    rw [this, Nat.mul_mod_mul_left]
theorem Burst.stays {x : Nat} (h : Burst x) (h0 : x ≠ 0) (n : Nat) (hn : x < 2 ^ n) : stepsN n x ≠ 0 := by
  obtain ⟨W, p, rfl, hW⟩ := h
  have hW0 : W ≠ 0 := by intro e; subst e; simp at h0
  have hp : p ≤ n := by
    by_cases hp : p ≤ n
    · exact hp
    · have h1 : 2 ^ n ≤ 2 ^ p := Nat.pow_le_pow_right (by decide) (by omega)
      have h2 : 2 ^ p * 1 ≤ 2 ^ p * W := Nat.mul_le_mul_left _ (by omega)
      omega
  have : n = p + (n - p) := by omega
  rw [this, stepsN_add, stepsN_shift]
  exact stepsN_ne _ hW hW0

/-- WHERE UP TO 32 BITS ARE TURNED, AT LEAST ONE, IT IS NO Put. -/
theorem sumOk_burst {a b : List UInt8} (hl : b.length = a.length) (ha : sumOk a) {m : Nat} (hm : numOf b = numOf a ^^^ m) (hB : Burst m) (h0 : m ≠ 0) : ¬ sumOk b := by
  intro hb
  have h4 := ha.1
  have e1 := (sumOk_raw a h4).1 ha
  have e2 := (sumOk_raw b hb.1).1 hb
  rw [crcRaw_num] at e1 e2
  rw [hm, ← Nat.xor_assoc, hl, stepsN_xor, e1] at e2
  have e3 : stepsN (8 * a.length) m = 0 := by
    have h : (stepsN 32 4294967295 ^^^ stepsN (8 * a.length) m) ^^^ stepsN 32 4294967295 = 0 := by rw [e2, Nat.xor_self]
    rw [Nat.xor_comm, ← Nat.xor_assoc, Nat.xor_self, Nat.zero_xor] at h
    exact h
  refine hB.stays h0 (8 * a.length) ?_ e3
  have hma : m = numOf a ^^^ numOf b := by rw [hm, ← Nat.xor_assoc, Nat.xor_self, Nat.zero_xor]
  rw [hma]
  exact Nat.xor_lt_two_pow (numOf_lt a) (by rw [← hl]; exact numOf_lt b)

theorem sumPut_ok (b : List UInt8) : sumOk (sumPut b) := by
  have h : (sumPut b).length = b.length + 4 := by simp [sumPut, four]
  refine ⟨by omega, ?_⟩
  rw [h]
  simp [sumPut]

theorem sumCut_eq (b : List UInt8) : sumCut b = if sumOk b then some (b.take (b.length - 4)) else none := by
  unfold sumCut
  by_cases h : b.length < 4
  · rw [if_pos h, if_neg (fun e : sumOk b => absurd e.1 (by omega))]
  · rw [if_neg h]
    by_cases h2 : b.drop (b.length - 4) = four (crc (b.take (b.length - 4)))
    · rw [if_pos h2, if_pos (show sumOk b from ⟨by omega, h2⟩)]
    · rw [if_neg h2, if_neg (fun e : sumOk b => h2 e.2)]

theorem sumCut_put (b : List UInt8) : sumCut (sumPut b) = some b := by
  rw [sumCut_eq, if_pos (sumPut_ok b)]
  simp [sumPut, four]

end Tb
end Go.Proofs.YtocmnhjgknaocaaDoor
