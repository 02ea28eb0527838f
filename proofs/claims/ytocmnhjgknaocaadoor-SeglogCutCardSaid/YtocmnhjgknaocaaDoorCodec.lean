import Derived.Test.YtocmnhjgknaocaaDoorCrc
namespace Go.Proofs.YtocmnhjgknaocaaDoor
namespace Tb

/-! ### vint -/
def vput (n : Nat) : List UInt8 :=
  if n < 128 then [UInt8.ofNat n] else UInt8.ofNat (n % 128 + 128) :: vput (n / 128)
  termination_by n
  decreasing_by omega

/-- From place i on, n being there: the number, how many bytes; or an error. -/
def vgetFrom (i n : Nat) : List UInt8 → Except Int (Nat × Nat)
  | [] => .error 3
  | c :: l =>
    if i = 9 ∧ 1 < c.toNat then .error 2
    else if 128 ≤ c.toNat then vgetFrom (i + 1) (n + (c.toNat % 128) * 2 ^ (7 * i)) l
    else if c.toNat = 0 ∧ 0 < i then .error 2
    else .ok (n + c.toNat * 2 ^ (7 * i), i + 1)
def vget (b : List UInt8) : Except Int (Nat × Nat) := vgetFrom 0 0 b
def vall (l : List Nat) : List UInt8 := l.flatMap vput

theorem vput_length_pos (n : Nat) : 0 < (vput n).length := by
  unfold vput; split <;> simp
theorem vput_length_le (k : Nat) : ∀ n, n < 2 ^ (7 * k + 7) → (vput n).length ≤ k + 1 := by
  induction k with
  | zero => intro n h; unfold vput; rw [if_pos (by simpa using h)]; simp
  | succ k ih =>
    intro n h
    unfold vput
    split
    · simp
    · have : n / 128 < 2 ^ (7 * k + 7) := by
        have e : 2 ^ (7 * (k + 1) + 7) = 128 * 2 ^ (7 * k + 7) := by rw [show 7 * (k + 1) + 7 = (7 * k + 7) + 7 from by omega, Nat.pow_add _ (7 * k + 7) 7]; omega
        rw [e] at h
        exact Nat.div_lt_of_lt_mul h
      have := ih _ this
      simp; omega

/-- A number is read as it was put, whatever is behind. -/
theorem vgetFrom_put (k : Nat) : ∀ (i n m : Nat) (rest : List UInt8), i + k = 9 → m < 2 ^ (64 - 7 * i) → (0 < i → 0 < m) →
    vgetFrom i n (vput m ++ rest) = .ok (n + m * 2 ^ (7 * i), i + (vput m).length) := by
  induction k with
  | zero =>
    intro i n m rest hi hm h0
    obtain rfl : i = 9 := by omega
    have hm' : m < 2 := by simpa using hm
    have := h0 (by decide)
    unfold vput
    rw [if_pos (by omega)]
    simp only [List.cons_append, List.nil_append, vgetFrom, UInt8.toNat_ofNat']
    rw [if_neg (by omega), if_neg (by omega), if_neg (by omega)]
    simp; omega
  | succ k ih =>
    intro i n m rest hi hm h0
    unfold vput
    by_cases h : m < 128
    · rw [if_pos h]
      simp only [List.cons_append, List.nil_append, vgetFrom, UInt8.toNat_ofNat']
      rw [if_neg (by omega), if_neg (by omega), if_neg (by omega), show m % 2 ^ 8 = m from by omega]
      rfl
    · rw [if_neg h]
      simp only [List.cons_append, vgetFrom, UInt8.toNat_ofNat']
      rw [if_neg (by omega), if_pos (by omega)]
      have hm2 : m / 128 < 2 ^ (64 - 7 * (i + 1)) := by
        have e : 2 ^ (64 - 7 * i) = 128 * 2 ^ (64 - 7 * (i + 1)) := by
          rw [show 64 - 7 * i = (64 - 7 * (i + 1)) + 7 from by omega, Nat.pow_add _ _ 7]; omega
        rw [e] at hm
        exact Nat.div_lt_of_lt_mul hm
      rw [ih (i + 1) _ (m / 128) rest (by omega) hm2 (fun _ => by omega)]
      have e1 : (m % 128 + 128) % 2 ^ 8 % 128 = m % 128 := by omega
      rw [e1]
      have e2 : (m % 128) * 2 ^ (7 * i) + (m / 128) * 2 ^ (7 * (i + 1)) = m * 2 ^ (7 * i) := by
        have : 2 ^ (7 * (i + 1)) = 128 * 2 ^ (7 * i) := by rw [show 7 * (i + 1) = 7 * i + 7 from by omega, Nat.pow_add _ _ 7]; omega
        rw [this, ← Nat.mul_assoc, ← Nat.add_mul]
        congr 1; omega
      simp only [List.length_cons]
      congr 2
      · omega
      · omega
theorem vget_put {m : Nat} (hm : m < 2 ^ 64) (rest : List UInt8) : vget (vput m ++ rest) = .ok (m, (vput m).length) := by
  unfold vget
  rw [vgetFrom_put 9 0 0 m rest rfl hm (fun h => absurd h (by decide))]
  simp

/-! ### frame -/
structure Frm where
  kind : UInt8
  body : List UInt8
  deriving DecidableEq, Inhabited

def headOf (x : Frm) : List UInt8 := [x.kind, UInt8.ofNat (x.body.length % 256), UInt8.ofNat (x.body.length / 256)]
def frmRaw (x : Frm) : List UInt8 := sumPut (headOf x) ++ sumPut x.body
/-- A frame's bytes; none: the body has more than it may. -/
def frmBytes (x : Frm) : Except Int (List UInt8) := if 400 < x.body.length then .error 4 else .ok (frmRaw x)
def frmRead (b : List UInt8) : Except Int (Frm × Nat) :=
  if b.length < 7 then .error 3 else
  match sumCut (b.take 7) with
  | none => .error 8
  | some h =>
    let n := (h.getD 1 0).toNat + (h.getD 2 0).toNat * 256
    if 400 < n then .error 2 else
    if b.length < 11 + n then .error 3 else
    match sumCut ((b.take (11 + n)).drop 7) with
    | none => .error 8
    | some body => .ok (⟨h.getD 0 0, body⟩, 11 + n)
/-- All frames of bytes, where they end, and the error. -/
def frmAllN : Nat → List UInt8 → List Frm × Nat × Int
  | 0, _ => ([], 0, 0)
  | k + 1, b =>
    if b = [] then ([], 0, 0) else
    match frmRead b with
    | .error e => ([], 0, e)
    | .ok (x, n) =>
      let r := frmAllN k (b.drop n)
      (x :: r.1, n + r.2.1, r.2.2)
def frmAll (b : List UInt8) : List Frm × Nat × Int := frmAllN b.length b

theorem frmRaw_length (x : Frm) : (frmRaw x).length = 11 + x.body.length := by
  simp [frmRaw, sumPut, headOf, four]; omega
theorem frmRead_raw {x : Frm} (h : x.body.length ≤ 400) (rest : List UInt8) : frmRead (frmRaw x ++ rest) = .ok (x, 11 + x.body.length) := by
  have hl := frmRaw_length x
  have hh : (sumPut (headOf x)).length = 7 := by simp [sumPut, headOf, four]
  have hb : (sumPut x.body).length = x.body.length + 4 := by simp [sumPut, four]
  unfold frmRead
  rw [if_neg (by simp; omega)]
  have e1 : (frmRaw x ++ rest).take 7 = sumPut (headOf x) := by
    rw [frmRaw, List.append_assoc, List.take_append_of_le_length (by omega), List.take_of_length_le (by omega)]
  rw [e1, sumCut_put]
  have e2 : ((headOf x).getD 1 0).toNat + ((headOf x).getD 2 0).toNat * 256 = x.body.length := by
    simp [headOf]; omega
  simp only [e2]
  rw [if_neg (by omega), if_neg (by simp; omega)]
  have e3 : ((frmRaw x ++ rest).take (11 + x.body.length)).drop 7 = sumPut x.body := by
    rw [List.take_append_of_le_length (by omega), List.take_of_length_le (by omega), frmRaw, List.drop_append_of_le_length (by omega), List.drop_of_length_le (by omega), List.nil_append]
  rw [e3, sumCut_put]
  rfl
theorem frmRead_used {b : List UInt8} {x : Frm} {n : Nat} (h : frmRead b = .ok (x, n)) : 11 ≤ n ∧ n ≤ b.length := by
  unfold frmRead at h
  split at h
  · cases h
  · split at h
    · cases h
    · simp only at h
      split at h
      · cases h
      · split at h
        · cases h
        · split at h
          · cases h
          · injection h with h; injection h with h1 h2; omega

theorem frmAllN_more (k : Nat) : ∀ (b : List UInt8), b.length ≤ k → frmAllN k b = frmAll b := by
  have key : ∀ (k j : Nat) (b : List UInt8), b.length ≤ k → b.length ≤ j → frmAllN k b = frmAllN j b := by
    intro k
    induction k with
    | zero =>
      intro j b h _
      have : b = [] := List.eq_nil_of_length_eq_zero (by omega)
      subst this
      cases j <;> simp [frmAllN]
    | succ k ih =>
      intro j b h hj
      cases j with
      | zero =>
        have : b = [] := List.eq_nil_of_length_eq_zero (by omega)
        subst this
        simp [frmAllN]
      | succ j =>
        simp only [frmAllN]
        by_cases hb : b = []
        · simp [hb]
        · rw [if_neg hb, if_neg hb]
          cases hr : frmRead b with
          | error e => rfl
          | ok r =>
            obtain ⟨x, n⟩ := r
            have := frmRead_used hr
            simp only
            rw [ih j (b.drop n) (by simp; omega) (by simp; omega)]
  intro b h
  exact key k b.length b h (Nat.le_refl _)
theorem frmAll_eq (b : List UInt8) : frmAll b = if b = [] then ([], 0, 0) else
    match frmRead b with
    | .error e => ([], 0, e)
    | .ok (x, n) => (x :: (frmAll (b.drop n)).1, n + (frmAll (b.drop n)).2.1, (frmAll (b.drop n)).2.2) := by
  rw [← frmAllN_more (b.length + 1) b (by omega), frmAllN]
  split
  · rfl
  · rename_i hb
    cases hr : frmRead b with
    | error e => rfl
    | ok r =>
      obtain ⟨x, n⟩ := r
      simp only
      rw [frmAllN_more b.length (b.drop n) (by simp)]
theorem frmAll_cons {x : Frm} (h : x.body.length ≤ 400) (rest : List UInt8) :
    frmAll (frmRaw x ++ rest) = (x :: (frmAll rest).1, 11 + x.body.length + (frmAll rest).2.1, (frmAll rest).2.2) := by
  have hl := frmRaw_length x
  rw [frmAll_eq, if_neg (by intro e; rw [(List.append_eq_nil_iff.1 e).1] at hl; simp at hl; omega), frmRead_raw h]
  have : (frmRaw x ++ rest).drop (11 + x.body.length) = rest := by
    rw [← hl, List.drop_left]
  simp only [this]

/-! ### record -/
structure Rec where
  kind : Int
  n : List Nat
  text : List UInt8
  deriving DecidableEq, Inhabited

def numbersOf (kind : Int) : Nat := ([0, 0, 5, 2, 1, 2, 2, 1, 1, 1, 1, 1, 5, 7, 10, 2, 1, 1] : List Nat).getD kind.toNat 0
def known (kind : Int) : Bool := decide (1 ≤ kind) && decide (kind ≤ 17)
def worded (kind : Int) : Bool := kind == 10 || kind == 11 || kind == 16
def fits (kind : Int) (many : Nat) : Bool := many == 0 || (worded kind && decide (many ≤ 64))
def recRight (r : Rec) : Bool := known r.kind && r.n.length == numbersOf r.kind && fits r.kind r.text.length
def recFrm (r : Rec) : Frm := ⟨UInt8.ofNat r.kind.toNat, vall r.n ++ r.text⟩
def recBytes (r : Rec) : Except Int (List UInt8) := if recRight r then frmBytes (recFrm r) else .error 1
/-- Some numbers of bytes, and what is left. -/
def takeNums : Nat → List UInt8 → Except Int (List Nat × List UInt8)
  | 0, b => .ok ([], b)
  | k + 1, b => match vget b with
    | .error e => .error e
    | .ok (n, used) => match takeNums k (b.drop used) with
      | .error e => .error e
      | .ok (l, rest) => .ok (n :: l, rest)
def recRead (x : Frm) : Except Int Rec :=
  if known x.kind.toNat then
    match takeNums (numbersOf x.kind.toNat) x.body with
    | .error e => .error e
    | .ok (l, rest) => if fits x.kind.toNat rest.length then .ok ⟨x.kind.toNat, l, rest⟩ else .error 2
  else .error 2
/-- Records of frames, where each ends, and the error: e, if there is none. -/
def recsOf (e : Int) : Nat → List Frm → List Rec × List Nat × Int
  | _, [] => ([], [], e)
  | at_, x :: l => match recRead x with
    | .error f => ([], [], f)
    | .ok r => let q := recsOf e (at_ + (11 + x.body.length)) l; (r :: q.1, (at_ + (11 + x.body.length)) :: q.2.1, q.2.2)
def recAll (b : List UInt8) : List Rec × List Nat × Int := recsOf (frmAll b).2.2 0 (frmAll b).1

end Tb
end Go.Proofs.YtocmnhjgknaocaaDoor
