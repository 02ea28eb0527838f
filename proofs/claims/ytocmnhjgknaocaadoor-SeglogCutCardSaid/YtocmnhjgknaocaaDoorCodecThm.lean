import Derived.Test.YtocmnhjgknaocaaDoorCodec
namespace Go.Proofs.YtocmnhjgknaocaaDoor
namespace Tb

theorem takeNums_all (l : List Nat) (hl : ∀ n ∈ l, n < 2 ^ 64) (rest : List UInt8) : takeNums l.length (vall l ++ rest) = .ok (l, rest) := by
  induction l with
  | nil => simp [takeNums, vall]
  | cons n l ih =>
    have h1 : vall (n :: l) ++ rest = vput n ++ (vall l ++ rest) := by simp [vall]
    rw [h1, List.length_cons, takeNums, vget_put (hl n (by simp))]
    simp only [List.drop_left]
    rw [ih (fun m hm => hl m (by simp [hm]))]

/-- A record that may be, of numbers of 64 bits. -/
def OkRec (r : Rec) : Prop := recRight r = true ∧ ∀ n ∈ r.n, n < 2 ^ 64
def rawOf (r : Rec) : List UInt8 := frmRaw (recFrm r)

theorem numbersOf_le (k : Int) : numbersOf k ≤ 10 := by
  unfold numbersOf
  generalize k.toNat = j
  match j with
  | 0 | 1 | 2 | 3 | 4 | 5 | 6 | 7 | 8 | 9 | 10 | 11 | 12 | 13 | 14 | 15 | 16 | 17 => decide
  | j + 18 => simp

theorem vall_length_le (l : List Nat) (hl : ∀ n ∈ l, n < 2 ^ 64) : (vall l).length ≤ 10 * l.length := by
  induction l with
  | nil => simp [vall]
  | cons n l ih =>
    have h1 : vall (n :: l) = vput n ++ vall l := by simp [vall]
    have h2 := ih (fun m hm => hl m (by simp [hm]))
    have h3 := vput_length_le 9 n (Nat.lt_of_lt_of_le (hl n (by simp)) (by decide))
    rw [h1, List.length_append, List.length_cons]; omega

theorem recRight_iff (r : Rec) : recRight r = true ↔ (1 ≤ r.kind ∧ r.kind ≤ 17) ∧ r.n.length = numbersOf r.kind ∧ fits r.kind r.text.length = true := by
  unfold recRight known; simp [and_assoc]
theorem fits_le {k : Int} {m : Nat} (h : fits k m = true) : m ≤ 64 := by
  unfold fits at h; simp at h; omega
theorem OkRec.body {r : Rec} (h : OkRec r) : (recFrm r).body.length ≤ 164 := by
  obtain ⟨h1, h2⟩ := h
  obtain ⟨_, h3, h4⟩ := (recRight_iff r).1 h1
  have := numbersOf_le r.kind
  have := vall_length_le r.n h2
  have := fits_le h4
  simp [recFrm]; omega
theorem recBytes_ok {r : Rec} (h : OkRec r) : recBytes r = .ok (rawOf r) := by
  unfold recBytes frmBytes
  have := h.body
  rw [if_pos h.1, if_neg (by omega)]; rfl
theorem recRead_frm {r : Rec} (h : OkRec r) : recRead (recFrm r) = .ok r := by
  obtain ⟨h1, h2⟩ := h
  obtain ⟨⟨h5, h6⟩, h3, h4⟩ := (recRight_iff r).1 h1
  have hk : (((recFrm r).kind.toNat : Nat) : Int) = r.kind := by
    simp only [recFrm, UInt8.toNat_ofNat']; omega
  unfold recRead
  rw [hk, if_pos (by simp [known]; omega), ← h3]
  have : (recFrm r).body = vall r.n ++ r.text := rfl
  rw [this, takeNums_all r.n h2 r.text]
  simp only
  rw [if_pos h4]

theorem recsOf_shift (e : Int) (a : Nat) : ∀ (l : List Frm) (k : Nat), recsOf e (a + k) l = ((recsOf e k l).1, (recsOf e k l).2.1.map (a + ·), (recsOf e k l).2.2) := by
  intro l
  induction l with
  | nil => intro k; simp [recsOf]
  | cons x l ih =>
    intro k
    simp only [recsOf]
    cases recRead x with
    | error f => simp
    | ok r =>
      simp only
      rw [Nat.add_assoc, ih]
      simp

theorem rawOf_length {r : Rec} : (rawOf r).length = 11 + (recFrm r).body.length := frmRaw_length _
theorem recAll_cons {r : Rec} (h : OkRec r) (rest : List UInt8) :
    recAll (rawOf r ++ rest) = (r :: (recAll rest).1, (rawOf r).length :: (recAll rest).2.1.map ((rawOf r).length + ·), (recAll rest).2.2) := by
  have hb := h.body
  unfold recAll
  rw [rawOf, frmAll_cons (by omega)]
  simp only [recsOf]
  rw [recRead_frm h]
  simp only [Nat.zero_add, frmRaw_length]
  have := recsOf_shift (frmAll rest).2.2 (11 + (recFrm r).body.length) (frmAll rest).1 0
  rw [Nat.add_zero] at this
  rw [this]
theorem recAll_nil : recAll [] = ([], [], 0) := by
  unfold recAll; rw [frmAll_eq]; simp [recsOf]

def flat (l : List Rec) : List UInt8 := l.flatMap rawOf
/-- Where each ends, from a place on. -/
def endsOf : Nat → List Rec → List Nat
  | _, [] => []
  | k, r :: l => (k + (rawOf r).length) :: endsOf (k + (rawOf r).length) l
theorem flat_cons (r : Rec) (l : List Rec) : flat (r :: l) = rawOf r ++ flat l := by simp [flat]
theorem flat_append (l m : List Rec) : flat (l ++ m) = flat l ++ flat m := by simp [flat]
theorem endsOf_shift (l : List Rec) : ∀ a k, endsOf (a + k) l = (endsOf k l).map (a + ·) := by
  induction l with
  | nil => intro a k; rfl
  | cons r l ih => intro a k; simp only [endsOf, List.map_cons, Nat.add_assoc, ih]
theorem endsOf_length (l : List Rec) : ∀ k, (endsOf k l).length = l.length := by
  induction l with
  | nil => intro k; rfl
  | cons r l ih => intro k; simp [endsOf, ih]
theorem recAll_flat (l : List Rec) (hl : ∀ r ∈ l, OkRec r) (rest : List UInt8) :
    recAll (flat l ++ rest) = (l ++ (recAll rest).1, endsOf 0 l ++ (recAll rest).2.1.map ((flat l).length + ·), (recAll rest).2.2) := by
  induction l with
  | nil => simp [flat, endsOf]
  | cons r l ih =>
    rw [flat_cons, List.append_assoc, recAll_cons (hl r (by simp)), ih (fun q hq => hl q (by simp [hq]))]
    have h := endsOf_shift l (rawOf r).length 0
    simp only [Nat.add_zero] at h
    simp only [endsOf, Nat.zero_add, List.cons_append, List.map_append, List.map_map, h]
    congr 2
    congr 1
    congr 1
    apply List.map_congr_left
    intro x _
    simp [Nat.add_assoc]

/-! ### a beginning of a frame is too short -/
theorem frmRead_short {x : Frm} (h : x.body.length ≤ 400) {j : Nat} (hj : j < 11 + x.body.length) : frmRead ((frmRaw x).take j) = .error 3 := by
  have hl := frmRaw_length x
  have hh : (sumPut (headOf x)).length = 7 := by simp [sumPut, headOf, four]
  unfold frmRead
  by_cases h7 : j < 7
  · rw [if_pos (by simp; omega)]
  · rw [if_neg (by simp; omega)]
    have e1 : ((frmRaw x).take j).take 7 = sumPut (headOf x) := by
      rw [List.take_take, show min 7 j = 7 from by omega, frmRaw, List.take_append_of_le_length (by omega), List.take_of_length_le (by omega)]
    rw [e1, sumCut_put]
    have e2 : ((headOf x).getD 1 0).toNat + ((headOf x).getD 2 0).toNat * 256 = x.body.length := by
      simp [headOf]; omega
    simp only [e2]
    rw [if_neg (by omega), if_pos (by simp; omega)]
theorem recAll_short {r : Rec} (h : OkRec r) {j : Nat} (hj : j < (rawOf r).length) (h0 : 0 < j) : recAll ((rawOf r).take j) = ([], [], 3) := by
  have hb := h.body
  have hl := rawOf_length (r := r)
  unfold recAll
  rw [frmAll_eq, if_neg (by
    intro e
    have h1 : ((rawOf r).take j).length = 0 := by rw [e]; rfl
    rw [List.length_take] at h1
    omega)]
  rw [rawOf, frmRead_short (by omega) (by omega)]
  simp [recsOf]

/-- A beginning of records tells those that are whole. -/
theorem recAll_take (l : List Rec) (hl : ∀ r ∈ l, OkRec r) : ∀ j, ∃ k e, k ≤ l.length ∧ recAll ((flat l).take j) = (l.take k, endsOf 0 (l.take k), e) ∧ (e = 0 ∨ e = 3) ∧ (flat (l.take k)).length ≤ j ∧
    (∀ k', k' ≤ l.length → (flat (l.take k')).length ≤ j → k' ≤ k) ∧ (flat (l.take k)).length ≤ ((flat l).take j).length := by
  induction l with
  | nil => intro j; exact ⟨0, 0, Nat.le_refl _, by simp [flat, recAll_nil, endsOf], Or.inl rfl, by simp [flat], fun k' h _ => h, by simp [flat]⟩
  | cons r l ih =>
    intro j
    have hr := hl r (by simp)
    have hl' : ∀ q ∈ l, OkRec q := fun q hq => hl q (by simp [hq])
    have hlen := rawOf_length (r := r)
    by_cases hj : (rawOf r).length ≤ j
    · obtain ⟨k, e, hk, h1, h2, h3, h4, h5⟩ := ih hl' (j - (rawOf r).length)
      refine ⟨k + 1, e, by simp; omega, ?_, h2, ?_, ?_, ?_⟩
      · rw [flat_cons, List.take_append, List.take_of_length_le hj, recAll_cons hr, h1]
        have h := endsOf_shift (l.take k) (rawOf r).length 0
        simp only [Nat.add_zero] at h
        simp [endsOf, h]
      · rw [List.take_succ_cons, flat_cons, List.length_append]; omega
      · intro k' hk' hf
        cases k' with
        | zero => omega
        | succ k' =>
          rw [List.take_succ_cons, flat_cons, List.length_append] at hf
          have := h4 k' (by simp at hk'; omega) (by omega)
          omega
      · rw [List.take_succ_cons, flat_cons, flat_cons, List.take_append, List.take_of_length_le hj, List.length_append, List.length_append]; omega
    · have h0 : (flat (r :: l)).take j = (rawOf r).take j := by
        rw [flat_cons, List.take_append_of_le_length (by omega)]
      have hk0 : ∀ k', k' ≤ (r :: l).length → (flat ((r :: l).take k')).length ≤ j → k' ≤ 0 := by
        intro k' hk' hf
        cases k' with
        | zero => omega
        | succ k' => rw [List.take_succ_cons, flat_cons, List.length_append] at hf; omega
      by_cases h1 : j = 0
      · subst h1
        exact ⟨0, 0, by simp, by simp [recAll_nil, endsOf], Or.inl rfl, by simp [flat], hk0, by simp [flat]⟩
      · exact ⟨0, 3, by simp, by rw [h0, recAll_short hr (by omega) (by omega)]; simp [endsOf], Or.inr rfl, by simp [flat], hk0, by simp [flat]⟩

/-! ### turned bytes -/
theorem numOf_take (b : List UInt8) (k : Nat) : numOf (b.take k) = numOf b % 2 ^ (8 * min k b.length) := by
  have h := numOf_append (b.take k) (b.drop k)
  rw [List.take_append_drop] at h
  have hlt := numOf_lt (b.take k)
  rw [List.length_take] at h hlt
  rw [h, Nat.add_mul_mod_self_left, Nat.mod_eq_of_lt hlt]
theorem numOf_drop (b : List UInt8) (k : Nat) (hk : k ≤ b.length) : numOf (b.drop k) = numOf b / 2 ^ (8 * k) := by
  have h := numOf_append (b.take k) (b.drop k)
  rw [List.take_append_drop] at h
  have hlt := numOf_lt (b.take k)
  rw [List.length_take, Nat.min_eq_left hk] at h hlt
  rw [h, Nat.add_mul_div_left _ _ (Nat.two_pow_pos _), Nat.div_eq_of_lt hlt, Nat.zero_add]
theorem xor_mod (a b k : Nat) : (a ^^^ b) % 2 ^ k = (a % 2 ^ k) ^^^ (b % 2 ^ k) := Nat.xor_mod_two_pow
theorem xor_div (a b k : Nat) : (a ^^^ b) / 2 ^ k = (a / 2 ^ k) ^^^ (b / 2 ^ k) := by
  apply Nat.eq_of_testBit_eq; intro i
  simp [Nat.testBit_div_two_pow]

/-- b is a, with some of 32 bits turned. -/
def Turned (a b : List UInt8) : Prop := b.length = a.length ∧ ∃ m, numOf b = numOf a ^^^ m ∧ Burst m
theorem Turned.take {a b : List UInt8} (h : Turned a b) (k : Nat) : Turned (a.take k) (b.take k) := by
  obtain ⟨hl, m, hm, hB⟩ := h
  refine ⟨by simp [hl], m % 2 ^ (8 * min k a.length), ?_, hB.mod _⟩
  rw [numOf_take, numOf_take, hl, hm, xor_mod]
theorem Turned.drop {a b : List UInt8} (h : Turned a b) (k : Nat) : Turned (a.drop k) (b.drop k) := by
  obtain ⟨hl, m, hm, hB⟩ := h
  by_cases hk : k ≤ a.length
  · refine ⟨by simp [hl], m / 2 ^ (8 * k), ?_, hB.div _⟩
    rw [numOf_drop _ _ hk, numOf_drop _ _ (by omega), hm, xor_div]
  · refine ⟨by simp [hl], 0, ?_, ⟨0, 0, rfl, by decide⟩⟩
    rw [List.drop_of_length_le (by omega), List.drop_of_length_le (by omega)]; simp
theorem Turned.bad {a b : List UInt8} (h : Turned a b) (ha : sumOk a) (hne : a ≠ b) : ¬ sumOk b := by
  obtain ⟨hl, m, hm, hB⟩ := h
  refine sumOk_burst hl ha hm hB ?_
  intro e
  subst e
  exact hne (numOf_inj _ _ hl.symm (by rw [hm, Nat.xor_zero]))
theorem sumCut_bad {b : List UInt8} (h : ¬ sumOk b) : sumCut b = none := by rw [sumCut_eq, if_neg h]

theorem frmRead_turned {x : Frm} (h : x.body.length ≤ 400) {c : List UInt8} (rest : List UInt8) (hT : Turned (frmRaw x) c) (hne : frmRaw x ≠ c) : frmRead (c ++ rest) = .error 8 := by
  have hl := frmRaw_length x
  have hc := hT.1
  have hh : (sumPut (headOf x)).length = 7 := by simp [sumPut, headOf, four]
  have hd1 : (frmRaw x).take 7 = sumPut (headOf x) := by rw [frmRaw, List.take_append_of_le_length (by omega), List.take_of_length_le (by omega)]
  have hd2 : (frmRaw x).drop 7 = sumPut x.body := by rw [frmRaw, List.drop_append_of_le_length (by omega), List.drop_of_length_le (by omega), List.nil_append]
  have t1 := hT.take 7
  have t2 := hT.drop 7
  rw [hd1] at t1
  rw [hd2] at t2
  unfold frmRead
  rw [if_neg (by simp; omega), List.take_append_of_le_length (by omega)]
  by_cases e1 : sumPut (headOf x) = c.take 7
  · rw [← e1, sumCut_put]
    have e2 : ((headOf x).getD 1 0).toNat + ((headOf x).getD 2 0).toNat * 256 = x.body.length := by
      simp [headOf]; omega
    simp only [e2]
    rw [if_neg (by omega), if_neg (by simp; omega)]
    have e3 : ((c ++ rest).take (11 + x.body.length)).drop 7 = c.drop 7 := by
      rw [List.take_append_of_le_length (by omega), List.take_of_length_le (by omega)]
    rw [e3, sumCut_bad (t2.bad (sumPut_ok _) ?_)]
    intro e4
    apply hne
    rw [← List.take_append_drop 7 (frmRaw x), ← List.take_append_drop 7 c, hd1, hd2, e1, e4]
  · rw [sumCut_bad (t1.bad (sumPut_ok _) e1)]

theorem recAll_turned (l : List Rec) (hl : ∀ r ∈ l, OkRec r) : ∀ c, Turned (flat l) c → flat l ≠ c → ∃ k, k ≤ l.length ∧ (recAll c).1 = l.take k ∧ (recAll c).2.2 = 8 := by
  induction l with
  | nil =>
    intro c hT hne
    exact absurd (List.eq_nil_of_length_eq_zero (by simpa [flat] using hT.1)).symm hne
  | cons r l ih =>
    intro c hT hne
    have hr := hl r (by simp)
    have hb := hr.body
    have hlen := rawOf_length (r := r)
    have t1 := hT.take (rawOf r).length
    have t2 := hT.drop (rawOf r).length
    rw [flat_cons, List.take_left] at t1
    rw [flat_cons, List.drop_left] at t2
    have hc : c = c.take (rawOf r).length ++ c.drop (rawOf r).length := (List.take_append_drop _ _).symm
    by_cases e1 : rawOf r = c.take (rawOf r).length
    · have hne2 : flat l ≠ c.drop (rawOf r).length := by
        intro e2; apply hne; rw [flat_cons, hc, ← e1, ← e2]
      obtain ⟨k, h1, h2, h3⟩ := ih (fun q hq => hl q (by simp [hq])) _ t2 hne2
      refine ⟨k + 1, by simp; omega, ?_, ?_⟩
      · rw [hc, ← e1, recAll_cons hr]; simp [h2]
      · rw [hc, ← e1, recAll_cons hr]; exact h3
    · refine ⟨0, by simp, ?_, ?_⟩ <;>
      · unfold recAll
        rw [hc, frmAll_eq, if_neg (by
          intro e
          have := (List.append_eq_nil_iff.1 e).1
          have h := t1.1
          rw [this] at h
          simp at h; omega), frmRead_turned (by omega) _ t1 e1]
        simp [recsOf]

end Tb
end Go.Proofs.YtocmnhjgknaocaaDoor
