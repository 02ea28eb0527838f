import Derived.Test.YtocmnhjgknaocaaDoorVint
set_option linter.unusedVariables false
set_option linter.unusedSimpArgs false
set_option maxRecDepth 100000
namespace Go.Proofs.YtocmnhjgknaocaaDoor
open Go.RowKit Tb

def vallTo (l : List Nat) (k : Nat) : List UInt8 := vall (l.take k)
theorem vallTo_snoc (l : List Nat) (k : Nat) (h : k < l.length) : vallTo l (k + 1) = vallTo l k ++ vput l[k] := by
  unfold vallTo vall
  rw [List.take_succ_eq_append_getElem h, List.flatMap_append]; simp
theorem vallTo_all (l : List Nat) : vallTo l l.length = vall l := by unfold vallTo; rw [List.take_of_length_le (Nat.le_refl _)]
theorem vallTo_le (l : List Nat) (hl : ∀ n ∈ l, n < 2 ^ 64) (k : Nat) : (vallTo l k).length ≤ 10 * k := by
  have := vall_length_le (l.take k) (fun n hn => hl n (List.mem_of_mem_take hn))
  rw [List.length_take] at this
  unfold vallTo
  omega

set_option maxHeartbeats 800000 in
theorem vall_any (v : Value) (l : List Nat) (ok : Nat → Prop) (w : World) (hv : Sl elU64 w ok v l) (hl : ∀ n ∈ l, n < 2 ^ 64) (hlen : l.length ≤ 1000000000) :
    Calls Tryd.prog 64 #[v] w (RetB w fun r w' => OwnB w' w.heap.size r (vall l)) := by
  have hv0 := hv
  obtain ⟨A, c, rfl, hc1, hc2, hc⟩ := hv.one
  have HV := Lib.hid hv0
  have HN : Hid (l.length ≤ 1000000000) := hlen
  clear hv hv0 hlen hc
  go_enter Tryd.func64, Tryd.ntmps64
  go_wp2_with fail
  go_loopw [3, 8] (fun r i wr => ∃ k : Nat, k ≤ l.length ∧ i = .int .i64 k ∧ OwnB wr w.heap.size r (vallTo l k) ∧ Below w.heap.size w wr) (fun _ i _ => l.length - (intOf i).toNat)
  case atStart => exact ⟨0, by omega, rfl, World.ownsRow_nil _ _ _ _, Below.refl _ _⟩
  case round =>
    obtain ⟨k, hk, rfl, hown, hbel⟩ := hrel
    by_cases hlt : k < l.length
    · obtain ⟨A2, c2, hve, _, _, hc⟩ := (HV.out.below hbel Nat.one_pos).one
      injection hve with hA hln hcc
      subst hA
      subst hcc
      clear hln
      obtain ⟨b, o, rfl, hob, hcell⟩ := hc (by omega)
      have hck := hcell k hlt
      have hm : l[k] < 18446744073709551616 := hl l[k] (List.getElem_mem _)
      have HM := Lib.hid hm
      have HS := Lib.hid (vallTo_snoc l k hlt)
      have HL := Lib.hid (vallTo_le l hl k)
      have HL2 : Hid ((vput l[k]).length ≤ 10) := vput_length_le 9 l[k] (Nat.lt_of_lt_of_le hm (by decide))
      generalize l[k] = m at hck HM HS HL2
      clear hcell hc hm
      go_wp2_with (first | (go_at_call 86; refine (vput_any m HM.out _).mono ?_; rintro e w1 ⟨v1, rfl, hb1, hs1⟩; have hown1 := OwnB.below hown hb1; have hbel1 := below_step hbel hb1) | (at_builtin; refine app_row (enc := fun b : UInt8 => Value.int .u8 b.toNat) (fun _ => rfl) w.heap.size rfl (.tmp 12) (.tmp 14) 67 5 (.int .u8 0) 1 rfl Tryd.underlying67 infoU8 rfl _ (vallTo l k) (vput m) _ _ rfl rfl hown1 hs1 hbel1.size (by have := HL.out; have := HL2.out; have := HN.out; unfold maxLen; omega) (by have := HL.out; have := HL2.out; have := HN.out; omega) ?_; intro v2 w2 hown2 hg2 hlie2))
      go_roundw
      case rel => exact ⟨k + 1, by omega, by go_num, by rw [HS.out]; exact hown2, below_own hbel1 hbel1.size hown1 hg2⟩
      case measure => simp [intOf]; omega
    · obtain rfl : k = l.length := by omega
      go_wp2_with fail
      go_ret
      exact ⟨_, rfl, hbel, by rw [← vallTo_all]; exact hown⟩

/-- What Get answers. -/
def getV : Except Int (Nat × Nat) → Value
  | .error e => .tuple #[.int .u64 0, .int .i64 0, .int .i64 e]
  | .ok (n, used) => .tuple #[.int .u64 n, .int .i64 used, .int .i64 0]
theorem vgetFrom_cons (i n : Nat) (c : UInt8) (l : List UInt8) : vgetFrom i n (c :: l) =
    if i = 9 ∧ 1 < c.toNat then .error 2
    else if 128 ≤ c.toNat then vgetFrom (i + 1) (n + (c.toNat % 128) * 2 ^ (7 * i)) l
    else if c.toNat = 0 ∧ 0 < i then .error 2
    else .ok (n + c.toNat * 2 ^ (7 * i), i + 1) := rfl

theorem or_shift (n x k : Nat) (hk : k ≤ 9) (hn : n < 2 ^ (7 * k)) (hx : (x % 128) * 2 ^ (7 * k) < 2 ^ 64) :
    bits BinOp.or IntKind.u64 (n : Int) (IntKind.u64.wrap ((x : Int) % 128 * 2 ^ (7 * k))) = ((n + (x % 128) * 2 ^ (7 * k) : Nat) : Int) := by
  have e : ((x : Int) % 128 * 2 ^ (7 * k)) = (((x % 128) * 2 ^ (7 * k) : Nat) : Int) := by push_cast; rfl
  have hw : IntKind.u64.wrap (((x % 128) * 2 ^ (7 * k) : Nat) : Int) = (((x % 128) * 2 ^ (7 * k) : Nat) : Int) := by
    simp only [IntKind.wrap, IntKind.bits, IntKind.signed]
    simp
    omega
  have hn64 : n < 18446744073709551616 := by
    exact Nat.lt_of_lt_of_le hn (Nat.le_trans (Nat.pow_le_pow_right (by decide) (by omega : 7 * k ≤ 63)) (by decide))
  rw [e, hw, u64_or_nat n _ hn64 (by omega)]
  congr 1
  rw [Nat.or_comm, Nat.add_comm]
  exact nat_join (7 * k) _ _ (Nat.mul_mod_left _ _) hn

set_option maxHeartbeats 800000 in
theorem vget_any (v : Value) (xs : List UInt8) (ok : Nat → Prop) (w : World) (hv : Sl elU8 w ok v xs) : Calls Tryd.prog 96 #[v] w (Ret (getV (vget xs)) w) := by
  obtain ⟨A, c, rfl, hc1, hc2, hc⟩ := hv.one
  clear hv
  go_enter Tryd.func96, Tryd.ntmps96
  go_wp2_with fail
  go_loop [5, 10] (fun v i => ∃ k n : Nat, k ≤ xs.length ∧ k ≤ 9 ∧ i = .int .i64 k ∧ v = .int .u64 n ∧ n < 2 ^ (7 * k) ∧ vget xs = vgetFrom k n (xs.drop k)) (fun _ i => xs.length - (intOf i).toNat)
  case atStart => exact ⟨0, 0, by omega, by omega, rfl, rfl, by decide, rfl⟩
  case round =>
    obtain ⟨k, n, hk, hk9, rfl, rfl, hn, hg⟩ := hrel
    have HN := Lib.hid hn
    have HG := Lib.hid hg
    clear hn hg
    by_cases hlt : k < xs.length
    · obtain ⟨b, o, rfl, hob, hcell⟩ := hc (by omega)
      have hck := hcell k hlt
      have hd : xs.drop k = xs[k] :: xs.drop (k + 1) := List.drop_eq_getElem_cons hlt
      have HD : Hid (vget xs = vgetFrom k n (xs[k] :: xs.drop (k + 1))) := by rw [← hd]; exact HG.out
      clear hcell hd
      generalize xs[k] = x at hck HD
      have hx := x.toNat_lt
      have hsmall : k = 9 → x.toNat ≤ 1 → (x.toNat % 128) * 2 ^ (7 * k) < 2 ^ 64 := by
        intro e h; subst e
        have : (x.toNat % 128) * 2 ^ (7 * 9) ≤ 1 * 2 ^ (7 * 9) := Nat.mul_le_mul_right _ (by omega)
        omega
      have hlarge : k < 9 → (x.toNat % 128) * 2 ^ (7 * k) < 2 ^ (7 * (k + 1)) ∧ (x.toNat % 128) * 2 ^ (7 * k) < 2 ^ 64 := by
        intro h
        have e : 2 ^ (7 * (k + 1)) = 128 * 2 ^ (7 * k) := by rw [show 7 * (k + 1) = 7 * k + 7 from by omega, Nat.pow_add _ _ 7]; omega
        have h3 : (x.toNat % 128) * 2 ^ (7 * k) < 128 * 2 ^ (7 * k) := Nat.mul_lt_mul_of_pos_right (by omega) (Nat.two_pow_pos _)
        exact ⟨by rw [e]; exact h3, Nat.lt_of_lt_of_le (by rw [e]; exact h3) (Nat.pow_le_pow_right (by decide) (by omega))⟩
      have HSM := Lib.hid hsmall
      have HLG := Lib.hid hlarge
      clear hsmall hlarge
      by_cases h1 : k = 9 ∧ 1 < x.toNat
      · obtain ⟨h1, h1'⟩ := h1
        subst h1
        have he2 : decide ((1 : Int) < (x.toNat : Int)) = true := by simp; omega
        go_wp2_with fail
        go_ret3
        refine ⟨?_, rfl⟩
        rw [HD.out, vgetFrom_cons, if_pos ⟨rfl, h1'⟩]
        rfl
      · have hlt2 : (x.toNat % 128) * 2 ^ (7 * k) < 2 ^ 64 := by
          by_cases h9 : k = 9
          · exact HSM.out h9 (by omega)
          · exact (HLG.out (by omega)).2
        have HO := Lib.hid (or_shift n x.toNat k hk9 HN.out hlt2)
        have H1 := Lib.hid h1
        by_cases h2 : 128 ≤ x.toNat
        · have hk8 : k < 9 := by omega
          have he1 : ((k : Int) == 9) = false := by simp; omega
          have he2 : decide ((128 : Int) ≤ (x.toNat : Int)) = true := by simp; omega
          clear h1 hlt2
          go_wp2_with fail
          go_round
          case rel =>
            refine ⟨k + 1, n + (x.toNat % 128) * 2 ^ (7 * k), by omega, by omega, by go_num, int_eq HO.out, ?_, ?_⟩
            · have e : 2 ^ (7 * (k + 1)) = 128 * 2 ^ (7 * k) := by rw [show 7 * (k + 1) = 7 * k + 7 from by omega, Nat.pow_add _ _ 7]; omega
              have h3 : (x.toNat % 128) * 2 ^ (7 * k) ≤ 127 * 2 ^ (7 * k) := Nat.mul_le_mul_right _ (by omega)
              have := HN.out
              omega
            · rw [HD.out, vgetFrom_cons, if_neg H1.out, if_pos h2]
          case measure => simp [intOf]; omega
        · have he2 : decide ((128 : Int) ≤ (x.toNat : Int)) = false := by simp; omega
          have hm : x.toNat % 128 = x.toNat := by omega
          have hg9 : (decide ((1 : Int) < (x.toNat : Int)) = false ∧ k = 9) ∨ k < 9 := by
            by_cases h9 : k = 9
            · left; exact ⟨by simp; omega, h9⟩
            · right; omega
          clear hlt2 h1
          have HM := Lib.hid hm
          clear hm
          by_cases h3 : x.toNat = 0 ∧ 0 < k
          · obtain ⟨h3, h3'⟩ := h3
            have he3 : ((x.toNat : Int) == 0) = true := by simp; omega
            have he4 : decide (0 < k) = true := by simp; omega
            have HR : Hid (vget xs = .error 2) := by
              unfold Hid
              rw [HD.out, vgetFrom_cons, if_neg H1.out, if_neg h2, if_pos ⟨h3, h3'⟩]
            clear h3 h3'
            rcases hg9 with ⟨hg, h9⟩ | h9
            · have he1 : ((k : Int) == 9) = true := by simp; omega
              clear h9
              go_wp2_with fail
              go_ret3
              exact ⟨by rw [HR.out]; rfl, rfl⟩
            · have he1 : ((k : Int) == 9) = false := by simp; omega
              go_wp2_with fail
              go_ret3
              exact ⟨by rw [HR.out]; rfl, rfl⟩
          · have HR : Hid (vget xs = .ok (n + x.toNat * 2 ^ (7 * k), k + 1)) := by
              unfold Hid
              rw [HD.out, vgetFrom_cons, if_neg H1.out, if_neg h2, if_neg h3]
            have hcz : ((x.toNat : Int) == 0) = false ∨ (((x.toNat : Int) == 0) = true ∧ decide (0 < k) = false) := by
              by_cases h0 : x.toNat = 0
              · right; exact ⟨by simp; omega, by simp; omega⟩
              · left; simp; omega
            clear h3
            have hfin : ∀ W : World, W = w → Ret (getV (vget xs)) w (.returned (.tuple #[.int .u64 (bits BinOp.or IntKind.u64 (n : Int) (IntKind.u64.wrap ((x.toNat : Int) % 128 * 2 ^ (7 * k)))), .int .i64 ((k : Int) + 1), .int .i64 0])) W := by
              intro W hW
              refine ⟨?_, hW.symm⟩
              rw [HR.out, HO.out, HM.out]
              rfl
            have HF := Lib.hid hfin
            clear hfin
            rcases hg9 with ⟨hg, h9⟩ | h9
            · have he1 : ((k : Int) == 9) = true := by simp; omega
              clear h9
              rcases hcz with hz | ⟨hz, hz2⟩
              · go_wp2_with fail
                go_ret3
                exact HF.out _ rfl
              · go_wp2_with fail
                go_ret3
                exact HF.out _ rfl
            · have he1 : ((k : Int) == 9) = false := by simp; omega
              rcases hcz with hz | ⟨hz, hz2⟩
              · go_wp2_with fail
                go_ret3
                exact HF.out _ rfl
              · go_wp2_with fail
                go_ret3
                exact HF.out _ rfl
    · obtain rfl : k = xs.length := by omega
      go_wp2_with fail
      go_ret3
      refine ⟨?_, rfl⟩
      rw [HG.out, List.drop_length]
      rfl

end Go.Proofs.YtocmnhjgknaocaaDoor
